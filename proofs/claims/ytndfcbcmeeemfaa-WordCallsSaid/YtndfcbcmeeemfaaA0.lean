/-
  ABSTRACT VALUES, AND WHAT IT MEANS THAT A VALUE IN MEMORY IS ONE. Immutable data (IV), values of slots (AV, CV, SV), blocks that are owned (ABlk), states (St), and the relation to the model's worlds; that it stays, when memory that is not owned stays. No program in sight.
-/
import Derived.WalkKit
namespace Go.Proofs.Ytndfcbcmeeemfaa.Abs
open Go

/-- Immutable data: a value of one cell, or a slice of n rows of esz cells (ex: its capacity is its length). -/
inductive IV where
  | val (v : Value)
  | sl (esz n : Nat) (ex : Bool) (cell : Nat → Nat → IV)
  | mp (ka : Bool) (kks : List IntKind) (va : Bool) (vn : Nat) (dom : List Int → Bool) (val : List Int → Nat → IV)

/-- What a slot's cell may hold: immutable data, a pointer into an owned block, a slice of one, a pointer to immutable cells, a function with what it captured. -/
inductive AV where
  | imm (x : IV)
  | own (b e i j : Nat)
  | osl (b e r j len : Nat) (app : Bool)
  | omp (b : Nat)
  | vptr (n : Nat) (cell : Nat → IV)
  | fn (f : Fn) (nf : Nat) (first : Nat → AV) (nc : Nat) (caps : Nat → AV)

inductive CV where
  | one (x : AV)
  | agg (l : List AV)

inductive SV where
  | undef
  | cv (x : CV)
  | tup (l : List CV)
  | gd (c : Bool) (s : SV)

inductive ABlk where
  | var (ty : TypeId) (cells : List AV)
  | rows (ty e n : Nat) (cell : Nat → Nat → IV)
  | mp (ka : Bool) (kks : List IntKind) (va : Bool) (vn : Nat) (dom : List Int → Bool) (val : List Int → Nat → IV)

structure St where
  size : Nat
  env : Nat → SV
  heap : Nat → Option ABlk
  next : Nat

def ione (v : Value) : CV := .one (.imm (.val v))
def iint (n : Int) : CV := ione (.int .i64 n)
def ibool (b : Bool) : CV := ione (.bool b)

/-- A value of one cell. -/
def One (v : Value) : Prop := v.oneCell' = true

/-- A slice of no rows and no capacity, wherever it may begin. -/
def EmptyV (v : Value) : Prop := ∃ a, v = .slice a 0 0

/-- A map's key of integers: one, or a struct of some. -/
def keyCells (kks : List IntKind) (ks : List Int) : List Value := List.zipWith (fun k n => .int k n) kks ks
def aggV (agg : Bool) (l : List Value) : Value := bif agg then .agg l.toArray else l.headD Go.undef
def keyV (ka : Bool) (kks : List IntKind) (ks : List Int) : Value := aggV ka (keyCells kks ks)

def IRel (w : World) (O : Nat → Prop) : IV → Value → Prop
  | .val u, v => v = u ∧ One u
  | .sl esz n ex cell, v => (EmptyV v ∧ n = 0) ∨ ∃ b o cap, v = .slice (some ⟨b, o, none⟩) n cap ∧ n ≤ cap ∧ cap ≤ maxLen ∧ (ex = true → cap = n) ∧
      ¬ O b ∧ b < w.heap.size ∧ ∀ i, i < n → ∀ j, j < esz → ∃ u, w.cell? ⟨b, o + i * esz + j, none⟩ = some u ∧ IRel w O (cell i j) u
  | .mp ka kks va vn dom val, v => ∃ m es clock, v = .map (some m) ∧ ¬ O m ∧ m < w.heap.size ∧ w.heap[m]? = some (.map es clock) ∧ es.toList.Pairwise (fun x y => x.key ≠ y.key) ∧
      (∀ e ∈ es.toList, ∃ ks, ks.length = kks.length ∧ dom ks = true ∧ e.key = keyV ka kks ks ∧ ∃ cs : List Value, e.val = aggV va cs ∧ cs.length = vn ∧ ∀ j u, cs[j]? = some u → IRel w O (val ks j) u) ∧
      (∀ ks, dom ks = true → ks.length = kks.length ∧ ∃ e ∈ es.toList, e.key = keyV ka kks ks)

def ARel (w : World) (O : Nat → Prop) (μ : Nat → Option Nat) : AV → Value → Prop
  | .imm x, v => IRel w O x v
  | .own b e i j, v => ∃ m, μ b = some m ∧ v = .pointer (some ⟨m, i * e + j, none⟩)
  | .osl b e r j len app, v => (len = 0 ∧ EmptyV v) ∨ ∃ m cap, μ b = some m ∧ v = .slice (some ⟨m, r * e + j, none⟩) len cap ∧ len ≤ cap ∧ cap ≤ maxLen ∧
      (app = true → r = 0 ∧ j = 0 ∧ ∃ cur ty, w.heap[m]? = some (.cells cur ty (0, 0)) ∧ cur.size = cap * e)
  | .omp b, v => ∃ m, μ b = some m ∧ v = .map (some m)
  | .vptr n cell, v => ∃ b o, v = .pointer (some ⟨b, o, none⟩) ∧ ¬ O b ∧ b < w.heap.size ∧ ∀ j, j < n → ∃ u, w.cell? ⟨b, o + j, none⟩ = some u ∧ IRel w O (cell j) u
  | .fn f nf first nc caps, v => ∃ fs cs : List Value, v = .func f fs.toArray cs.toArray ∧ fs.length = nf ∧ cs.length = nc ∧
      (∀ i u, fs[i]? = some u → ARel w O μ (first i) u) ∧ (∀ i u, cs[i]? = some u → ARel w O μ (caps i) u)

def LRel (w : World) (O : Nat → Prop) (μ : Nat → Option Nat) (l : List AV) (cs : List Value) : Prop :=
  cs.length = l.length ∧ ∀ (i : Nat) x u, l[i]? = some x → cs[i]? = some u → ARel w O μ x u

def CRel (w : World) (O : Nat → Prop) (μ : Nat → Option Nat) : CV → Value → Prop
  | .one x, v => ARel w O μ x v
  | .agg l, v => ∃ cs : List Value, v = .agg cs.toArray ∧ LRel w O μ l cs

def TRel (w : World) (O : Nat → Prop) (μ : Nat → Option Nat) (l : List CV) (cs : List Value) : Prop :=
  cs.length = l.length ∧ ∀ (i : Nat) x u, l[i]? = some x → cs[i]? = some u → CRel w O μ x u

def SRel (w : World) (O : Nat → Prop) (μ : Nat → Option Nat) : SV → Value → Prop
  | .undef, _ => True
  | .cv x, v => CRel w O μ x v
  | .tup l, v => ∃ vs : List Value, v = .tuple vs.toArray ∧ TRel w O μ l vs
  | .gd c s, v => if c = true then SRel w O μ s v else v = Go.undef

def BRel (w : World) (O : Nat → Prop) (μ : Nat → Option Nat) (k : Nat) : ABlk → Prop
  | .var ty cells => ∃ m cur, μ k = some m ∧ w.heap[m]? = some (.cells cur ty (0, 0)) ∧ LRel w O μ cells cur.toList
  | .rows ty e n cell => (μ k = none ∧ n = 0) ∨ ∃ m cur, μ k = some m ∧ w.heap[m]? = some (.cells cur ty (0, 0)) ∧ n * e ≤ cur.size ∧
      ∀ i, i < n → ∀ j, j < e → ∃ u, cur[i * e + j]? = some u ∧ IRel w O (cell i j) u
  | .mp ka kks va vn dom val => ∃ m es clock, μ k = some m ∧ w.heap[m]? = some (.map es clock) ∧ es.toList.Pairwise (fun x y => x.key ≠ y.key) ∧
      (∀ e ∈ es.toList, ∃ ks, ks.length = kks.length ∧ dom ks = true ∧ e.key = keyV ka kks ks ∧ ∃ cs : List Value, e.val = aggV va cs ∧ cs.length = vn ∧ ∀ j u, cs[j]? = some u → IRel w O (val ks j) u) ∧
      (∀ ks, dom ks = true → ks.length = kks.length ∧ ∃ e ∈ es.toList, e.key = keyV ka kks ks)

/-- The blocks of the world that are owned, here or by others (F). -/
def Own (F : Nat → Prop) (H : Nat → Option ABlk) (μ : Nat → Option Nat) (m : Nat) : Prop := F m ∨ ∃ k, (H k).isSome = true ∧ μ k = some m

structure HRel (F : Nat → Prop) (w : World) (μ : Nat → Option Nat) (H : Nat → Option ABlk) (nx : Nat) : Prop where
  blk : ∀ k B, H k = some B → k < nx ∧ BRel w (Own F H μ) μ k B
  inj : ∀ k k' m, (H k).isSome = true → (H k').isSome = true → μ k = some m → μ k' = some m → k = k'
  lt : ∀ k m, μ k = some m → k < nx ∧ m < w.heap.size
  dis : ∀ k m, (H k).isSome = true → μ k = some m → ¬ F m
  frn : ∀ m, F m → m < w.heap.size

/-- From one world (with what was owned in it) to a later one. -/
structure Ext (F : Nat → Prop) (w : World) (O : Nat → Prop) (μ : Nat → Option Nat) (w' : World) (O' : Nat → Prop) (μ' : Nat → Option Nat) : Prop where
  os : w'.os = w.os
  tape : w'.tape = w.tape
  output : w'.output = w.output
  size : w.heap.size ≤ w'.heap.size
  keep : ∀ b, b < w.heap.size → ¬ O b → w'.heap[b]? = w.heap[b]?
  shape : ∀ (b : Nat) (cur : Array Value) ty fz, w.heap[b]? = some (.cells cur ty fz) → ∃ cur' : Array Value, w'.heap[b]? = some (.cells cur' ty fz) ∧ cur'.size = cur.size
  mu : ∀ k m, μ k = some m → μ' k = some m
  owned : ∀ m, O' m → O m ∨ w.heap.size ≤ m
  frn : ∀ b, b < w.heap.size → F b → w'.heap[b]? = w.heap[b]?
  frz : ∀ a, w'.frozen? a = w.frozen? a

theorem Ext.refl (F : Nat → Prop) (w : World) (O : Nat → Prop) (μ : Nat → Option Nat) : Ext F w O μ w O μ :=
  ⟨rfl, rfl, rfl, Nat.le_refl _, fun _ _ _ => rfl, fun _ cur _ _ h => ⟨cur, h, rfl⟩, fun _ _ h => h, fun _ h => .inl h, fun _ _ _ => rfl, fun _ => rfl⟩

theorem Ext.trans {F : Nat → Prop} {w1 w2 w3 : World} {O1 O2 O3 : Nat → Prop} {μ1 μ2 μ3 : Nat → Option Nat} (h : Ext F w1 O1 μ1 w2 O2 μ2) (k : Ext F w2 O2 μ2 w3 O3 μ3) : Ext F w1 O1 μ1 w3 O3 μ3 where
  os := k.os.trans h.os
  tape := k.tape.trans h.tape
  output := k.output.trans h.output
  size := Nat.le_trans h.size k.size
  keep b hb hO := by
    have h2 : ¬ O2 b := fun h2 => (h.owned b h2).elim hO (fun h3 => by omega)
    exact (k.keep b (Nat.lt_of_lt_of_le hb h.size) h2).trans (h.keep b hb hO)
  shape b cur ty fz hb := by
    obtain ⟨c2, h2, e2⟩ := h.shape b cur ty fz hb
    obtain ⟨c3, h3, e3⟩ := k.shape b c2 ty fz h2
    exact ⟨c3, h3, e3.trans e2⟩
  mu k' m hm := k.mu k' m (h.mu k' m hm)
  owned m hm := (k.owned m hm).elim (h.owned m) (fun h3 => .inr (Nat.le_trans h.size h3))
  frn b hb hF := (k.frn b (Nat.lt_of_lt_of_le hb h.size) hF).trans (h.frn b hb hF)
  frz a := (k.frz a).trans (h.frz a)

section
variable {F : Nat → Prop} {w w' : World} {O O' : Nat → Prop} {μ μ' : Nat → Option Nat}

theorem Ext.notOwn (h : Ext F w O μ w' O' μ') {b : Nat} (hb : b < w.heap.size) (hO : ¬ O b) : ¬ O' b :=
  fun h2 => (h.owned b h2).elim hO (fun h3 => by omega)

theorem Ext.cell (h : Ext F w O μ w' O' μ') {b o : Nat} (hb : b < w.heap.size) (hO : ¬ O b) : w'.cell? ⟨b, o, none⟩ = w.cell? ⟨b, o, none⟩ :=
  World.cell?_of_block (h.keep b hb hO)

theorem IRel.mono (h : Ext F w O μ w' O' μ') : ∀ (x : IV) (v : Value), IRel w O x v → IRel w' O' x v
  | .val _, _, hx => hx
  | .sl esz n ex cell, v, hx => by
    rcases hx with hx | ⟨b, o, cap, hv, h1, h2, h3, h4, h5, h6⟩
    · exact .inl hx
    · refine .inr ⟨b, o, cap, hv, h1, h2, h3, h.notOwn h5 h4, Nat.lt_of_lt_of_le h5 h.size, fun i hi j hj => ?_⟩
      obtain ⟨u, hu, hr⟩ := h6 i hi j hj
      exact ⟨u, (h.cell h5 h4).trans hu, IRel.mono h (cell i j) u hr⟩
  | .mp ka kks va vn dom val, v, hx => by
    obtain ⟨m, es, clock, hv, h1, h2, h3, h4, h5, h6⟩ := hx
    refine ⟨m, es, clock, hv, h.notOwn h2 h1, Nat.lt_of_lt_of_le h2 h.size, (h.keep m h2 h1).trans h3, h4, fun e he => ?_, h6⟩
    obtain ⟨ks, q1, q2, q3, cs, q4, q5, q6⟩ := h5 e he
    exact ⟨ks, q1, q2, q3, cs, q4, q5, fun j u hu => IRel.mono h (val ks j) u (q6 j u hu)⟩

theorem ARel.mono (h : Ext F w O μ w' O' μ') : ∀ (x : AV) (v : Value), ARel w O μ x v → ARel w' O' μ' x v
  | .imm x, v, hx => IRel.mono h x v hx
  | .own b e i j, v, hx => by obtain ⟨m, hm, hv⟩ := hx; exact ⟨m, h.mu b m hm, hv⟩
  | .osl b e r j len app, v, hx => by
    rcases hx with ⟨hl, hx⟩ | ⟨m, cap, hm, hv, h1, h2, h3⟩
    · exact .inl ⟨hl, hx⟩
    · refine .inr ⟨m, cap, h.mu b m hm, hv, h1, h2, fun ha => ?_⟩
      obtain ⟨hr, hj, cur, ty, hc, hs⟩ := h3 ha
      obtain ⟨cur', hc', hs'⟩ := h.shape m cur ty (0, 0) hc
      exact ⟨hr, hj, cur', ty, hc', hs'.trans hs⟩
  | .omp b, v, hx => by obtain ⟨m, hm, hv⟩ := hx; exact ⟨m, h.mu b m hm, hv⟩
  | .vptr n cell, v, hx => by
    obtain ⟨b, o, hv, h4, h5, h6⟩ := hx
    refine ⟨b, o, hv, h.notOwn h5 h4, Nat.lt_of_lt_of_le h5 h.size, fun j hj => ?_⟩
    obtain ⟨u, hu, hr⟩ := h6 j hj
    exact ⟨u, (h.cell h5 h4).trans hu, IRel.mono h (cell j) u hr⟩
  | .fn f nf first nc caps, v, hx => by
    obtain ⟨fs, cs, hv, h1, h2, h3, h4⟩ := hx
    exact ⟨fs, cs, hv, h1, h2, fun i u hu => ARel.mono h (first i) u (h3 i u hu), fun i u hu => ARel.mono h (caps i) u (h4 i u hu)⟩

theorem LRel.mono (h : Ext F w O μ w' O' μ') {l : List AV} {cs : List Value} (hx : LRel w O μ l cs) : LRel w' O' μ' l cs :=
  ⟨hx.1, fun i x u h1 h2 => ARel.mono h x u (hx.2 i x u h1 h2)⟩

theorem CRel.mono (h : Ext F w O μ w' O' μ') {x : CV} {v : Value} (hx : CRel w O μ x v) : CRel w' O' μ' x v := by
  cases x with
  | one x => exact ARel.mono h x v hx
  | agg l => obtain ⟨cs, hv, hl⟩ := hx; exact ⟨cs, hv, hl.mono h⟩

theorem TRel.mono (h : Ext F w O μ w' O' μ') {l : List CV} {cs : List Value} (hx : TRel w O μ l cs) : TRel w' O' μ' l cs :=
  ⟨hx.1, fun i x u h1 h2 => CRel.mono h (hx.2 i x u h1 h2)⟩

theorem SRel.mono (h : Ext F w O μ w' O' μ') {x : SV} {v : Value} (hx : SRel w O μ x v) : SRel w' O' μ' x v := by
  induction x with
  | undef => trivial
  | cv x => exact CRel.mono h hx
  | tup l => obtain ⟨vs, hv, hl⟩ := hx; exact ⟨vs, hv, hl.mono h⟩
  | gd c s ih =>
    unfold SRel at hx ⊢
    split at hx
    · rw [if_pos (by assumption)]; exact ih hx
    · rw [if_neg (by assumption)]; exact hx
end

theorem IRel.one {w : World} {O : Nat → Prop} {x : IV} {v : Value} (h : IRel w O x v) : One v := by
  cases x with
  | val u => obtain ⟨rfl, h⟩ := h; exact h
  | sl esz n ex cell => rcases h with ⟨⟨a, rfl⟩, _⟩ | ⟨b, o, cap, rfl, _⟩ <;> rfl
  | mp ka kks va vn dom val => obtain ⟨m, es, clock, rfl, _⟩ := h; rfl

theorem ARel.one {w : World} {O : Nat → Prop} {μ : Nat → Option Nat} {x : AV} {v : Value} (h : ARel w O μ x v) : One v := by
  cases x with
  | imm x => exact IRel.one h
  | own b e i j => obtain ⟨m, _, rfl⟩ := h; rfl
  | osl b e r j len app =>
    rcases h with ⟨_, h⟩ | ⟨m, cap, _, rfl, _⟩
    · obtain ⟨a, rfl⟩ := h; rfl
    · rfl
  | omp b => obtain ⟨m, _, rfl⟩ := h; rfl
  | vptr n cell => obtain ⟨b, o, rfl, _⟩ := h; rfl
  | fn f nf first nc caps => obtain ⟨fs, cs, rfl, _⟩ := h; rfl

/-- The cells of a value. -/
def CV.cells : CV → List AV
  | .one x => [x]
  | .agg l => l

theorem cells_one {v : Value} (h : One v) : v.cells = #[v] := by
  cases v <;> first | rfl | (simp [One, Value.oneCell'] at h)

theorem CRel.cells {w : World} {O : Nat → Prop} {μ : Nat → Option Nat} {x : CV} {v : Value} (h : CRel w O μ x v) : LRel w O μ x.cells v.cells.toList := by
  cases x with
  | one x =>
    have h' : ARel w O μ x v := h
    rw [cells_one h'.one]
    refine ⟨rfl, fun i y u h1 h2 => ?_⟩
    cases i with
    | zero => simp [CV.cells] at h1 h2; subst h1; subst h2; exact h'
    | succ i => simp [CV.cells] at h1
  | agg l =>
    obtain ⟨cs, rfl, hl⟩ := h
    simpa [Value.cells, CV.cells] using hl

theorem LRel.one {w : World} {O : Nat → Prop} {μ : Nat → Option Nat} {l : List AV} {cs : List Value} (h : LRel w O μ l cs) : ∀ u ∈ cs, One u := by
  intro u hu
  obtain ⟨i, hi, rfl⟩ := List.mem_iff_getElem.1 hu
  have hl : i < l.length := by rw [← h.1]; exact hi
  exact (h.2 i l[i] _ (List.getElem?_eq_getElem hl) (List.getElem?_eq_getElem hi)).one

theorem LRel.nil {w : World} {O : Nat → Prop} {μ : Nat → Option Nat} : LRel w O μ [] [] := ⟨rfl, fun i x u h => by simp at h⟩

theorem LRel.cons {w : World} {O : Nat → Prop} {μ : Nat → Option Nat} {x : AV} {u : Value} {l : List AV} {cs : List Value} (hx : ARel w O μ x u) (h : LRel w O μ l cs) : LRel w O μ (x :: l) (u :: cs) := by
  refine ⟨by simp [h.1], fun i y v h1 h2 => ?_⟩
  cases i with
  | zero => simp at h1 h2; subst h1; subst h2; exact hx
  | succ i => simp at h1 h2; exact h.2 i y v h1 h2

theorem LRel.append {w : World} {O : Nat → Prop} {μ : Nat → Option Nat} {l k : List AV} {cs ds : List Value} (h : LRel w O μ l cs) (h' : LRel w O μ k ds) : LRel w O μ (l ++ k) (cs ++ ds) := by
  refine ⟨by simp [h.1, h'.1], fun i y v h1 h2 => ?_⟩
  rw [List.getElem?_append] at h1 h2
  rw [h.1] at h2
  split at h1
  · rename_i hlt; rw [if_pos hlt] at h2; exact h.2 i y v h1 h2
  · rename_i hlt; rw [if_neg hlt] at h2; exact h'.2 _ y v h1 h2

theorem LRel.drop {w : World} {O : Nat → Prop} {μ : Nat → Option Nat} {l : List AV} {cs : List Value} (h : LRel w O μ l cs) (n : Nat) : LRel w O μ (l.drop n) (cs.drop n) :=
  ⟨by simp [h.1], fun i y v h1 h2 => by simp at h1 h2; exact h.2 _ y v h1 h2⟩

theorem LRel.take {w : World} {O : Nat → Prop} {μ : Nat → Option Nat} {l : List AV} {cs : List Value} (h : LRel w O μ l cs) (n : Nat) : LRel w O μ (l.take n) (cs.take n) := by
  refine ⟨by simp [h.1], fun i y v h1 h2 => ?_⟩
  rw [List.getElem?_take] at h1 h2
  split at h1
  · rename_i hlt; rw [if_pos hlt] at h2; exact h.2 _ y v h1 h2
  · cases h1
end Go.Proofs.Ytndfcbcmeeemfaa.Abs
