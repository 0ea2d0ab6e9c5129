/-
  ABSTRACT VALUES, AND WHAT IT MEANS THAT A VALUE IN MEMORY IS ONE. Immutable data (IV), values of slots (AV, CV, SV), blocks that are owned (ABlk), states (St), and the relation to the model's worlds; that it stays, when memory that is not owned stays. No program in sight.
-/
import Derived.WalkKit
import Derived.Laws.StructEq
namespace Go.Proofs.YtmpddomgiplnmaaDoor.Abs
open Go

/-- Immutable data: a value of one cell, or a slice of n rows of esz cells (ex: its capacity is its length). -/
inductive IV where
  | val (v : Value)
  | sl (esz n : Nat) (ex : Bool) (cell : Nat → Nat → IV)
  | mp (ka : Bool) (kks : List IntKind) (va : Bool) (vn : Nat) (dom : List Int → Bool) (val : List Int → Nat → IV)

/-- What a slot's cell may hold: immutable data, a pointer into an owned block, a slice of one, a pointer to immutable cells, a function with what it captured. -/
inductive AV where
  | imm (x : IV)
  | own (b e i j : Nat)
  | osl (b e r j len : Nat) (app : Bool)
  | omp (b : Nat)
  | vptr (n : Nat) (cell : Nat → IV)
  | fn (f : Fn) (nf : Nat) (first : Nat → AV) (nc : Nat) (caps : Nat → AV)

inductive CV where
  | one (x : AV)
  | agg (l : List AV)

inductive SV where
  | undef
  | cv (x : CV)
  | tup (l : List CV)
  | gd (c : Bool) (s : SV)

inductive ABlk where
  | var (ty : TypeId) (cells : List AV)
  | rows (ty e n : Nat) (cell : Nat → Nat → IV)
  | mp (ka : Bool) (kks : List IntKind) (va : Bool) (vn : Nat) (dom : List Int → Bool) (val : List Int → Nat → IV)
  | it (ka : Bool) (kks : List IntKind) (va : Bool) (vn : Nat) (dom : List Int → Bool) (val : List Int → Nat → IV) (seen : List (List Int))

/-- A map's entries: each key once, each with a number of its own. -/
structure MapOk (es : List MapEntry) (clock : Nat) : Prop where
  keys : es.Pairwise (fun x y => x.key ≠ y.key)
  born : ∀ e ∈ es, e.born < clock
  dist : es.Pairwise (fun x y => x.born ≠ y.born)

structure St where
  size : Nat
  env : Nat → SV
  heap : Nat → Option ABlk
  next : Nat

def ione (v : Value) : CV := .one (.imm (.val v))
def iint (n : Int) : CV := ione (.int .i64 n)
def ibool (b : Bool) : CV := ione (.bool b)

/-- A value of one cell. -/
def One (v : Value) : Prop := v.oneCell' = true

/-- A slice of no rows and no capacity, wherever it may begin. -/
def EmptyV (v : Value) : Prop := ∃ a, v = .slice a 0 0

/-- A map's key of integers: one, or a struct of some. -/
def keyCells (kks : List IntKind) (ks : List Int) : List Value := List.zipWith (fun k n => .int k n) kks ks
def aggV (agg : Bool) (l : List Value) : Value := bif agg then .agg l.toArray else l.headD Go.undef
def keyV (ka : Bool) (kks : List IntKind) (ks : List Int) : Value := aggV ka (keyCells kks ks)

def IRel (w : World) (O : Nat → Prop) : IV → Value → Prop
  | .val u, v => v = u ∧ One u
  | .sl esz n ex cell, v => (EmptyV v ∧ n = 0) ∨ ∃ b o cap, v = .slice (some ⟨b, o, none⟩) n cap ∧ n ≤ cap ∧ cap ≤ maxLen ∧ (ex = true → cap = n) ∧
      ¬ O b ∧ b < w.heap.size ∧ ∀ i, i < n → ∀ j, j < esz → ∃ u, w.cell? ⟨b, o + i * esz + j, none⟩ = some u ∧ IRel w O (cell i j) u
  | .mp ka kks va vn dom val, v => ∃ m es clock, v = .map (some m) ∧ ¬ O m ∧ m < w.heap.size ∧ w.heap[m]? = some (.map es clock) ∧ MapOk es.toList clock ∧
      (∀ e ∈ es.toList, ∃ ks, ks.length = kks.length ∧ dom ks = true ∧ e.key = keyV ka kks ks ∧ ∃ cs : List Value, e.val = aggV va cs ∧ cs.length = vn ∧ ∀ j u, cs[j]? = some u → IRel w O (val ks j) u) ∧
      (∀ ks, dom ks = true → ks.length = kks.length ∧ ∃ e ∈ es.toList, e.key = keyV ka kks ks)

def ARel (w : World) (O : Nat → Prop) (μ : Nat → Option Nat) : AV → Value → Prop
  | .imm x, v => IRel w O x v
  | .own b e i j, v => ∃ m, μ b = some m ∧ v = .pointer (some ⟨m, i * e + j, none⟩)
  | .osl b e r j len app, v => (len = 0 ∧ EmptyV v) ∨ ∃ m cap, μ b = some m ∧ v = .slice (some ⟨m, r * e + j, none⟩) len cap ∧ len ≤ cap ∧ cap ≤ maxLen ∧
      (app = true → r = 0 ∧ j = 0 ∧ ∃ cur ty, w.heap[m]? = some (.cells cur ty (0, 0)) ∧ cur.size = cap * e)
  | .omp b, v => ∃ m, μ b = some m ∧ v = .map (some m)
  | .vptr n cell, v => ∃ b o, v = .pointer (some ⟨b, o, none⟩) ∧ ¬ O b ∧ b < w.heap.size ∧ ∀ j, j < n → ∃ u, w.cell? ⟨b, o + j, none⟩ = some u ∧ IRel w O (cell j) u
  | .fn f nf first nc caps, v => ∃ fs cs : List Value, v = .func f fs.toArray cs.toArray ∧ fs.length = nf ∧ cs.length = nc ∧
      (∀ i u, fs[i]? = some u → ARel w O μ (first i) u) ∧ (∀ i u, cs[i]? = some u → ARel w O μ (caps i) u)

def LRel (w : World) (O : Nat → Prop) (μ : Nat → Option Nat) (l : List AV) (cs : List Value) : Prop :=
  cs.length = l.length ∧ ∀ (i : Nat) x u, l[i]? = some x → cs[i]? = some u → ARel w O μ x u

def CRel (w : World) (O : Nat → Prop) (μ : Nat → Option Nat) : CV → Value → Prop
  | .one x, v => ARel w O μ x v
  | .agg l, v => ∃ cs : List Value, v = .agg cs.toArray ∧ LRel w O μ l cs

def TRel (w : World) (O : Nat → Prop) (μ : Nat → Option Nat) (l : List CV) (cs : List Value) : Prop :=
  cs.length = l.length ∧ ∀ (i : Nat) x u, l[i]? = some x → cs[i]? = some u → CRel w O μ x u

def SRel (w : World) (O : Nat → Prop) (μ : Nat → Option Nat) : SV → Value → Prop
  | .undef, _ => True
  | .cv x, v => CRel w O μ x v
  | .tup l, v => ∃ vs : List Value, v = .tuple vs.toArray ∧ TRel w O μ l vs
  | .gd c s, v => if c = true then SRel w O μ s v else v = Go.undef

def BRel (w : World) (O : Nat → Prop) (μ : Nat → Option Nat) (k : Nat) : ABlk → Prop
  | .var ty cells => ∃ m cur, μ k = some m ∧ w.heap[m]? = some (.cells cur ty (0, 0)) ∧ LRel w O μ cells cur.toList
  | .rows ty e n cell => (μ k = none ∧ n = 0) ∨ ∃ m cur, μ k = some m ∧ w.heap[m]? = some (.cells cur ty (0, 0)) ∧ n * e ≤ cur.size ∧
      ∀ i, i < n → ∀ j, j < e → ∃ u, cur[i * e + j]? = some u ∧ IRel w O (cell i j) u
  | .mp ka kks va vn dom val => ∃ m es clock, μ k = some m ∧ w.heap[m]? = some (.map es clock) ∧ MapOk es.toList clock ∧
      (∀ e ∈ es.toList, ∃ ks, ks.length = kks.length ∧ dom ks = true ∧ e.key = keyV ka kks ks ∧ ∃ cs : List Value, e.val = aggV va cs ∧ cs.length = vn ∧ ∀ j u, cs[j]? = some u → IRel w O (val ks j) u) ∧
      (∀ ks, dom ks = true → ks.length = kks.length ∧ ∃ e ∈ es.toList, e.key = keyV ka kks ks)
  | .it ka kks va vn dom val seen => ∃ r m es clock, ∃ ms : List MapEntry, μ k = some r ∧ w.heap[r]? = some (.mapIter (some m) clock (ms.map (·.born)).toArray clock) ∧ w.heap[m]? = some (.map es clock) ∧ MapOk es.toList clock ∧ (∀ e ∈ ms, e ∈ es.toList) ∧
      ms.map (·.key) = seen.reverse.map (keyV ka kks) ∧ (∀ ks ∈ seen, dom ks = true) ∧ IRel w O (.mp ka kks va vn dom val) (.map (some m))

/-- The blocks of the world that are owned, here or by others (F). -/
def Own (F : Nat → Prop) (H : Nat → Option ABlk) (μ : Nat → Option Nat) (m : Nat) : Prop := F m ∨ ∃ k, (H k).isSome = true ∧ μ k = some m

structure HRel (F : Nat → Prop) (w : World) (μ : Nat → Option Nat) (H : Nat → Option ABlk) (nx : Nat) : Prop where
  blk : ∀ k B, H k = some B → k < nx ∧ BRel w (Own F H μ) μ k B
  inj : ∀ k k' m, (H k).isSome = true → (H k').isSome = true → μ k = some m → μ k' = some m → k = k'
  lt : ∀ k m, μ k = some m → k < nx ∧ m < w.heap.size
  dis : ∀ k m, (H k).isSome = true → μ k = some m → ¬ F m
  frn : ∀ m, F m → m < w.heap.size

/-- Tables of the program's that are read: their blocks and cells. -/
def gTabs : List (Nat × List Value) := [(1, ([1, 10, 100, 1000, 10000, 100000, 1000000, 10000000, 100000000, 1000000000, 10000000000, 100000000000, 1000000000000, 10000000000000, 100000000000000, 1000000000000000, 10000000000000000, 100000000000000000, 1000000000000000000, 10000000000000000000] : List Int).map fun z => Value.int .u64 z)]
/-- They lie as they were laid, and nobody owns them. -/
def gOk (w : World) (O : Nat → Prop) : Prop := ∀ t ∈ gTabs, t.1 < w.heap.size ∧ ¬ O t.1 ∧ ∃ ty fz, w.heap[t.1]? = some (.cells t.2.toArray ty fz)
theorem gOk.less {w : World} {O O' : Nat → Prop} (h : gOk w O) (hO : ∀ m, O' m → O m) : gOk w O' := fun t ht => ⟨(h t ht).1, fun hm => (h t ht).2.1 (hO _ hm), (h t ht).2.2⟩
/-- From one world (with what was owned in it) to a later one. -/
structure Ext (F : Nat → Prop) (w : World) (O : Nat → Prop) (μ : Nat → Option Nat) (w' : World) (O' : Nat → Prop) (μ' : Nat → Option Nat) : Prop where
  os : w'.os = w.os
  tape : w'.tape = w.tape
  output : w'.output = w.output
  size : w.heap.size ≤ w'.heap.size
  keep : ∀ b, b < w.heap.size → ¬ O b → w'.heap[b]? = w.heap[b]?
  shape : ∀ (b : Nat) (cur : Array Value) ty fz, w.heap[b]? = some (.cells cur ty fz) → ∃ cur' : Array Value, w'.heap[b]? = some (.cells cur' ty fz) ∧ cur'.size = cur.size
  mu : ∀ k m, μ k = some m → μ' k = some m
  owned : ∀ m, O' m → O m ∨ w.heap.size ≤ m
  frn : ∀ b, b < w.heap.size → F b → w'.heap[b]? = w.heap[b]?
  frz : ∀ a, a.block < w.heap.size → w'.frozen? a = w.frozen? a
  drawn : w.drawn ≤ w'.drawn

theorem Ext.refl (F : Nat → Prop) (w : World) (O : Nat → Prop) (μ : Nat → Option Nat) : Ext F w O μ w O μ :=
  ⟨rfl, rfl, rfl, Nat.le_refl _, fun _ _ _ => rfl, fun _ cur _ _ h => ⟨cur, h, rfl⟩, fun _ _ h => h, fun _ h => .inl h, fun _ _ _ => rfl, fun _ _ => rfl, Nat.le_refl _⟩

theorem Ext.trans {F : Nat → Prop} {w1 w2 w3 : World} {O1 O2 O3 : Nat → Prop} {μ1 μ2 μ3 : Nat → Option Nat} (h : Ext F w1 O1 μ1 w2 O2 μ2) (k : Ext F w2 O2 μ2 w3 O3 μ3) : Ext F w1 O1 μ1 w3 O3 μ3 where
  os := k.os.trans h.os
  tape := k.tape.trans h.tape
  output := k.output.trans h.output
  size := Nat.le_trans h.size k.size
  keep b hb hO := by
    have h2 : ¬ O2 b := fun h2 => (h.owned b h2).elim hO (fun h3 => by omega)
    exact (k.keep b (Nat.lt_of_lt_of_le hb h.size) h2).trans (h.keep b hb hO)
  shape b cur ty fz hb := by
    obtain ⟨c2, h2, e2⟩ := h.shape b cur ty fz hb
    obtain ⟨c3, h3, e3⟩ := k.shape b c2 ty fz h2
    exact ⟨c3, h3, e3.trans e2⟩
  mu k' m hm := k.mu k' m (h.mu k' m hm)
  owned m hm := (k.owned m hm).elim (h.owned m) (fun h3 => .inr (Nat.le_trans h.size h3))
  frn b hb hF := (k.frn b (Nat.lt_of_lt_of_le hb h.size) hF).trans (h.frn b hb hF)
  frz a ha := (k.frz a (Nat.lt_of_lt_of_le ha h.size)).trans (h.frz a ha)
  drawn := Nat.le_trans h.drawn k.drawn

section
variable {F : Nat → Prop} {w w' : World} {O O' : Nat → Prop} {μ μ' : Nat → Option Nat}

theorem Ext.notOwn (h : Ext F w O μ w' O' μ') {b : Nat} (hb : b < w.heap.size) (hO : ¬ O b) : ¬ O' b :=
  fun h2 => (h.owned b h2).elim hO (fun h3 => by omega)

theorem Ext.cell (h : Ext F w O μ w' O' μ') {b o : Nat} (hb : b < w.heap.size) (hO : ¬ O b) : w'.cell? ⟨b, o, none⟩ = w.cell? ⟨b, o, none⟩ :=
  World.cell?_of_block (h.keep b hb hO)

theorem gOk.mono (g : gOk w O) (h : Ext F w O μ w' O' μ') : gOk w' O' := fun t ht => by
  obtain ⟨g1, g2, ty, fz, g3⟩ := g t ht
  exact ⟨Nat.lt_of_lt_of_le g1 h.size, h.notOwn g1 g2, ty, fz, (h.keep t.1 g1 g2).trans g3⟩

theorem IRel.mono (h : Ext F w O μ w' O' μ') : ∀ (x : IV) (v : Value), IRel w O x v → IRel w' O' x v
  | .val _, _, hx => hx
  | .sl esz n ex cell, v, hx => by
    rcases hx with hx | ⟨b, o, cap, hv, h1, h2, h3, h4, h5, h6⟩
    · exact .inl hx
    · refine .inr ⟨b, o, cap, hv, h1, h2, h3, h.notOwn h5 h4, Nat.lt_of_lt_of_le h5 h.size, fun i hi j hj => ?_⟩
      obtain ⟨u, hu, hr⟩ := h6 i hi j hj
      exact ⟨u, (h.cell h5 h4).trans hu, IRel.mono h (cell i j) u hr⟩
  | .mp ka kks va vn dom val, v, hx => by
    obtain ⟨m, es, clock, hv, h1, h2, h3, h4, h5, h6⟩ := hx
    refine ⟨m, es, clock, hv, h.notOwn h2 h1, Nat.lt_of_lt_of_le h2 h.size, (h.keep m h2 h1).trans h3, h4, fun e he => ?_, h6⟩
    obtain ⟨ks, q1, q2, q3, cs, q4, q5, q6⟩ := h5 e he
    exact ⟨ks, q1, q2, q3, cs, q4, q5, fun j u hu => IRel.mono h (val ks j) u (q6 j u hu)⟩

theorem ARel.mono (h : Ext F w O μ w' O' μ') : ∀ (x : AV) (v : Value), ARel w O μ x v → ARel w' O' μ' x v
  | .imm x, v, hx => IRel.mono h x v hx
  | .own b e i j, v, hx => by obtain ⟨m, hm, hv⟩ := hx; exact ⟨m, h.mu b m hm, hv⟩
  | .osl b e r j len app, v, hx => by
    rcases hx with ⟨hl, hx⟩ | ⟨m, cap, hm, hv, h1, h2, h3⟩
    · exact .inl ⟨hl, hx⟩
    · refine .inr ⟨m, cap, h.mu b m hm, hv, h1, h2, fun ha => ?_⟩
      obtain ⟨hr, hj, cur, ty, hc, hs⟩ := h3 ha
      obtain ⟨cur', hc', hs'⟩ := h.shape m cur ty (0, 0) hc
      exact ⟨hr, hj, cur', ty, hc', hs'.trans hs⟩
  | .omp b, v, hx => by obtain ⟨m, hm, hv⟩ := hx; exact ⟨m, h.mu b m hm, hv⟩
  | .vptr n cell, v, hx => by
    obtain ⟨b, o, hv, h4, h5, h6⟩ := hx
    refine ⟨b, o, hv, h.notOwn h5 h4, Nat.lt_of_lt_of_le h5 h.size, fun j hj => ?_⟩
    obtain ⟨u, hu, hr⟩ := h6 j hj
    exact ⟨u, (h.cell h5 h4).trans hu, IRel.mono h (cell j) u hr⟩
  | .fn f nf first nc caps, v, hx => by
    obtain ⟨fs, cs, hv, h1, h2, h3, h4⟩ := hx
    exact ⟨fs, cs, hv, h1, h2, fun i u hu => ARel.mono h (first i) u (h3 i u hu), fun i u hu => ARel.mono h (caps i) u (h4 i u hu)⟩

theorem LRel.mono (h : Ext F w O μ w' O' μ') {l : List AV} {cs : List Value} (hx : LRel w O μ l cs) : LRel w' O' μ' l cs :=
  ⟨hx.1, fun i x u h1 h2 => ARel.mono h x u (hx.2 i x u h1 h2)⟩

theorem CRel.mono (h : Ext F w O μ w' O' μ') {x : CV} {v : Value} (hx : CRel w O μ x v) : CRel w' O' μ' x v := by
  cases x with
  | one x => exact ARel.mono h x v hx
  | agg l => obtain ⟨cs, hv, hl⟩ := hx; exact ⟨cs, hv, hl.mono h⟩

theorem TRel.mono (h : Ext F w O μ w' O' μ') {l : List CV} {cs : List Value} (hx : TRel w O μ l cs) : TRel w' O' μ' l cs :=
  ⟨hx.1, fun i x u h1 h2 => CRel.mono h (hx.2 i x u h1 h2)⟩

theorem SRel.mono (h : Ext F w O μ w' O' μ') {x : SV} {v : Value} (hx : SRel w O μ x v) : SRel w' O' μ' x v := by
  induction x with
  | undef => trivial
  | cv x => exact CRel.mono h hx
  | tup l => obtain ⟨vs, hv, hl⟩ := hx; exact ⟨vs, hv, hl.mono h⟩
  | gd c s ih =>
    unfold SRel at hx ⊢
    split at hx
    · rw [if_pos (by assumption)]; exact ih hx
    · rw [if_neg (by assumption)]; exact hx
end

theorem IRel.one {w : World} {O : Nat → Prop} {x : IV} {v : Value} (h : IRel w O x v) : One v := by
  cases x with
  | val u => obtain ⟨rfl, h⟩ := h; exact h
  | sl esz n ex cell => rcases h with ⟨⟨a, rfl⟩, _⟩ | ⟨b, o, cap, rfl, _⟩ <;> rfl
  | mp ka kks va vn dom val => obtain ⟨m, es, clock, rfl, _⟩ := h; rfl

theorem ARel.one {w : World} {O : Nat → Prop} {μ : Nat → Option Nat} {x : AV} {v : Value} (h : ARel w O μ x v) : One v := by
  cases x with
  | imm x => exact IRel.one h
  | own b e i j => obtain ⟨m, _, rfl⟩ := h; rfl
  | osl b e r j len app =>
    rcases h with ⟨_, h⟩ | ⟨m, cap, _, rfl, _⟩
    · obtain ⟨a, rfl⟩ := h; rfl
    · rfl
  | omp b => obtain ⟨m, _, rfl⟩ := h; rfl
  | vptr n cell => obtain ⟨b, o, rfl, _⟩ := h; rfl
  | fn f nf first nc caps => obtain ⟨fs, cs, rfl, _⟩ := h; rfl

/-- The cells of a value. -/
def CV.cells : CV → List AV
  | .one x => [x]
  | .agg l => l

theorem cells_one {v : Value} (h : One v) : v.cells = #[v] := by
  cases v <;> first | rfl | (simp [One, Value.oneCell'] at h)

theorem CRel.cells {w : World} {O : Nat → Prop} {μ : Nat → Option Nat} {x : CV} {v : Value} (h : CRel w O μ x v) : LRel w O μ x.cells v.cells.toList := by
  cases x with
  | one x =>
    have h' : ARel w O μ x v := h
    rw [cells_one h'.one]
    refine ⟨rfl, fun i y u h1 h2 => ?_⟩
    cases i with
    | zero => simp [CV.cells] at h1 h2; subst h1; subst h2; exact h'
    | succ i => simp [CV.cells] at h1
  | agg l =>
    obtain ⟨cs, rfl, hl⟩ := h
    simpa [Value.cells, CV.cells] using hl

theorem LRel.one {w : World} {O : Nat → Prop} {μ : Nat → Option Nat} {l : List AV} {cs : List Value} (h : LRel w O μ l cs) : ∀ u ∈ cs, One u := by
  intro u hu
  obtain ⟨i, hi, rfl⟩ := List.mem_iff_getElem.1 hu
  have hl : i < l.length := by rw [← h.1]; exact hi
  exact (h.2 i l[i] _ (List.getElem?_eq_getElem hl) (List.getElem?_eq_getElem hi)).one

theorem LRel.nil {w : World} {O : Nat → Prop} {μ : Nat → Option Nat} : LRel w O μ [] [] := ⟨rfl, fun i x u h => by simp at h⟩

theorem LRel.cons {w : World} {O : Nat → Prop} {μ : Nat → Option Nat} {x : AV} {u : Value} {l : List AV} {cs : List Value} (hx : ARel w O μ x u) (h : LRel w O μ l cs) : LRel w O μ (x :: l) (u :: cs) := by
  refine ⟨by simp [h.1], fun i y v h1 h2 => ?_⟩
  cases i with
  | zero => simp at h1 h2; subst h1; subst h2; exact hx
  | succ i => simp at h1 h2; exact h.2 i y v h1 h2

theorem LRel.append {w : World} {O : Nat → Prop} {μ : Nat → Option Nat} {l k : List AV} {cs ds : List Value} (h : LRel w O μ l cs) (h' : LRel w O μ k ds) : LRel w O μ (l ++ k) (cs ++ ds) := by
  refine ⟨by simp [h.1, h'.1], fun i y v h1 h2 => ?_⟩
  rw [List.getElem?_append] at h1 h2
  rw [h.1] at h2
  split at h1
  · rename_i hlt; rw [if_pos hlt] at h2; exact h.2 i y v h1 h2
  · rename_i hlt; rw [if_neg hlt] at h2; exact h'.2 _ y v h1 h2

theorem LRel.drop {w : World} {O : Nat → Prop} {μ : Nat → Option Nat} {l : List AV} {cs : List Value} (h : LRel w O μ l cs) (n : Nat) : LRel w O μ (l.drop n) (cs.drop n) :=
  ⟨by simp [h.1], fun i y v h1 h2 => by simp at h1 h2; exact h.2 _ y v h1 h2⟩

theorem LRel.take {w : World} {O : Nat → Prop} {μ : Nat → Option Nat} {l : List AV} {cs : List Value} (h : LRel w O μ l cs) (n : Nat) : LRel w O μ (l.take n) (cs.take n) := by
  refine ⟨by simp [h.1], fun i y v h1 h2 => ?_⟩
  rw [List.getElem?_take] at h1 h2
  split at h1
  · rename_i hlt; rw [if_pos hlt] at h2; exact h.2 _ y v h1 h2
  · cases h1
end Go.Proofs.YtmpddomgiplnmaaDoor.Abs

/-
  THE EVALUATOR OF OPERATIONS ON ABSTRACT VALUES: a plain function, made to be reckoned by 'whnf' on literal operations and symbolic data. What it cannot do it answers by 'none'; what must hold besides it collects as a proposition.
-/
namespace Go.Proofs.YtmpddomgiplnmaaDoor.Abs
open Go

inductive TK where
  | int (k : IntKind)
  | bool
  | str
  | sl (e : TypeId)
  | st (fs : List (Nat × TypeId))
  | arr (n : Nat) (e : TypeId)
  | ptr (e : TypeId)
  | fn
  | map (k e : TypeId)
  | other

structure Lay where
  kind : TK
  size : Nat
  bytes : Nat
  zero : List Value

def kindOf : TypeDesc → TK
  | .int k => .int k
  | .bool => .bool
  | .string => .str
  | .slice e => .sl e
  | .struct fs => .st (fs.toList.map fun f => (f.offset, f.type))
  | .array n e => .arr n e
  | .pointer e => .ptr e
  | .func _ _ _ => .fn
  | .map k e => .map k e
  | _ => .other

abbrev Lays := TypeId → Option Lay

def LayOk1 (P : Program) (t : TypeId) (x : Lay) : Prop :=
  (P.info? t).map (fun i => (i.size, i.bytes, i.zero.map fun z => z.cells.toList)) = some (x.size, x.bytes, some x.zero) ∧ (P.underlying t).map kindOf = some x.kind

def LayOk (P : Program) (T : Lays) : Prop := ∀ t x, T t = some x → LayOk1 P t x

def avDef : AV := .imm (.val Go.undef)
def ivDef : IV := .val Go.undef

/-- A value of one cell as data: the nil slice is a slice of no rows. -/
def ivOf (v : Value) : IV :=
  match v with
  | .slice none 0 0 => .sl 0 0 true fun _ _ => ivDef
  | v => .val v

def evConst (v : Value) : SV :=
  match v with
  | .agg cs => bif cs.toList.all (·.oneCell') then .cv (.agg (cs.toList.map fun u => .imm (ivOf u))) else .undef
  | .tuple _ => .undef
  | v => .cv (.one (.imm (ivOf v)))

def evS (E : Nat → SV) : Operand → SV
  | .tmp t => E t
  | .const v => evConst v
  | .global _ => .undef
  | .func f => .cv (.one (.fn (.func f) 0 (fun _ => avDef) 0 fun _ => avDef))

def strip : SV → SV
  | .gd _ x => x
  | x => x

def gdc : SV → Prop
  | .gd c _ => c = true
  | _ => True

def rd (E : Nat → SV) (x : Operand) : SV := strip (evS E x)
def need (E : Nat → SV) (x : Operand) : Prop := gdc (evS E x)

def mk (agg : Bool) (l : List AV) : Option CV :=
  bif agg then some (.agg l) else match l with
    | [x] => some (.one x)
    | _ => none

def isAgg : TK → Bool
  | .st _ => true
  | .arr _ _ => true
  | _ => false

def lenIs : List AV → Nat → Bool
  | [], 0 => true
  | _ :: l, n + 1 => lenIs l n
  | _, _ => false

/-- n cells by a function. -/
def ofFn (n : Nat) (f : Nat → AV) : List AV := (List.range n).map f

/-- The cells at a pointer. -/
def loadAt (H : Nat → Option ABlk) (p : AV) (size : Nat) : Option (List AV × Prop) :=
  match p with
  | .own b e i j => match H b with
    | some (.var _ cells) => let l := (cells.drop (i * e + j)).take size
      bif lenIs l size then some (l, True) else none
    | some (.rows _ e' n cell) => bif Nat.beq e e' && Nat.ble (j + size) e' then some (ofFn size fun q => .imm (cell i (j + q)), i < n) else none
    | _ => none
  | .vptr n cell => bif Nat.ble size n then some (ofFn size fun q => .imm (cell q), True) else none
  | _ => none

def arith (op : BinOp) (k : IntKind) (a b : Int) : Option (Value × Prop) :=
  match op with
  | .add => some (.int k (k.wrap (a + b)), True)
  | .sub => some (.int k (k.wrap (a - b)), True)
  | .mul => some (.int k (k.wrap (a * b)), True)
  | .quo => some (.int k (k.wrap (a.tdiv b)), b ≠ 0)
  | .rem => some (.int k (a.tmod b), b ≠ 0)
  | .eql => some (.bool (a == b), True)
  | .neq => some (.bool (a != b), True)
  | .lss => some (.bool (decide (a < b)), True)
  | .leq => some (.bool (decide (a ≤ b)), True)
  | .gtr => some (.bool (decide (a > b)), True)
  | .geq => some (.bool (decide (a ≥ b)), True)
  | .and => some (.int k (k.wrap ((BitVec.ofInt k.bits a &&& BitVec.ofInt k.bits b).toNat : Nat)), True)
  | .or => some (.int k (k.wrap ((BitVec.ofInt k.bits a ||| BitVec.ofInt k.bits b).toNat : Nat)), True)
  | .andNot => some (.int k (k.wrap ((BitVec.ofInt k.bits a &&& ~~~(BitVec.ofInt k.bits b)).toNat : Nat)), True)
  | .shl => some (.int k (k.wrap (a * 2 ^ min b.toNat k.bits)), 0 ≤ b)
  | .shr => some (.int k (a.fdiv (2 ^ min b.toNat k.bits)), 0 ≤ b)
  | _ => none

def kindEq : IntKind → IntKind → Bool
  | .i8, .i8 | .i16, .i16 | .i32, .i32 | .i64, .i64 | .u8, .u8 | .u16, .u16 | .u32, .u32 | .u64, .u64 => true
  | _, _ => false

/-- Two rows of int cells: are they the same? -/
def eqCells : List AV → List AV → Option Bool
  | [], [] => some true
  | .imm (.val (.int k a)) :: l, .imm (.val (.int k' b)) :: m => bif kindEq k k' then match eqCells l m with | some c => some ((a == b) && c) | none => none else none
  | _, _ => none

def isBool : Option Lay → Bool
  | some ⟨.bool, _, _, _⟩ => true
  | _ => false

/-- Strings: the same bytes. -/
def sEq (a b : ByteArray) : Bool := a.toList == b.toList
/-- Cells that are all bytes. -/
def u8L : List IV → Option (List Int)
  | [] => some []
  | .val (.int .u8 k) :: l => match u8L l with
    | some m => some (k :: m)
    | none => none
  | _ => none
/-- The key that was met last, as a cell; an entry's cells. -/
def keyC : Bool → List IntKind → List Int → Option CV
  | false, [k], [n] => some (ione (.int k n))
  | _, _, _ => none
def lastK : List (List Int) → Option (List Int)
  | [] => none
  | x :: _ => some x
def binV (isB : Bool) (op : BinOp) (x y : SV) : Option (Value × Prop) :=
  match x, y with
  | .cv (.one (.imm (.val (.int k a)))), .cv (.one (.imm (.val (.int k' b)))) => bif kindEq k k' then arith op k a b else none
  | .cv (.one (.imm (.val (.bool a)))), .cv (.one (.imm (.val (.bool b)))) => match op with
    | .eql => bif isB then some (.bool (a == b), True) else none
    | .neq => bif isB then some (.bool (!(a == b)), True) else none
    | _ => none
  | .cv (.one (.imm (.val (.string a)))), .cv (.one (.imm (.val (.string b)))) => match op with
    | .add => some (.string (a ++ b), a.size + b.size ≤ 9223372036854775807)
    | .eql => some (.bool (sEq a b), True)
    | .neq => some (.bool (!sEq a b), True)
    | _ => none
  | _, _ => none

def cellsOf (E : Nat → SV) (x : Operand) : Option (List AV) :=
  match rd E x with
  | .cv c => some c.cells
  | _ => none

/-- Parts laid over zero cells. -/
def setAt (cells : List AV) (off : Nat) (l : List AV) : List AV := cells.take off ++ l ++ cells.drop (off + l.length)

def fillS (T : Lays) (E : Nat → SV) (fs : List (Nat × TypeId)) : List AV → List (Nat × Operand) → Option (List AV × Prop)
  | cells, [] => some (cells, True)
  | cells, (i, x) :: rest => match fs[i]?, cellsOf E x with
    | some (off, ft), some l => match T ft with
      | some L => bif lenIs l L.size && Nat.ble (off + L.size) cells.length then match fillS T E fs (setAt cells off l) rest with
        | some (c, p) => some (c, need E x ∧ p)
        | none => none
        else none
      | none => none
    | _, _ => none

def fillA (E : Nat → SV) (size : Nat) : List AV → List (Nat × Operand) → Option (List AV × Prop)
  | cells, [] => some (cells, True)
  | cells, (i, x) :: rest => match cellsOf E x with
    | some l => bif lenIs l size && Nat.ble (i * size + size) cells.length then match fillA E size (setAt cells (i * size) l) rest with
        | some (c, p) => some (c, need E x ∧ p)
        | none => none
        else none
    | none => none

def zeros (L : Lay) : List AV := L.zero.map fun u => .imm (ivOf u)

def listAV (E : Nat → SV) : List Operand → Option (List AV × Prop)
  | [] => some ([], True)
  | x :: l => match rd E x, listAV E l with
    | .cv (.one y), some (ys, p) => some (y :: ys, need E x ∧ p)
    | _, _ => none

def listCV (E : Nat → SV) : List Operand → Option (List CV × Prop)
  | [] => some ([], True)
  | x :: l => match rd E x, listCV E l with
    | .cv y, some (ys, p) => some (y :: ys, need E x ∧ p)
    | _, _ => none

def eqI : List Int → List Int → Bool
  | [], [] => true
  | x :: l, y :: m => (x == y) && eqI l m
  | _, _ => false

def intKinds (T : Lays) : Nat → List (Nat × TypeId) → Option (List IntKind)
  | _, [] => some []
  | i, (off, ft) :: rest => match T ft with
    | some ⟨.int q, _, _, _⟩ => bif Nat.beq off i then match intKinds T (i + 1) rest with
      | some l => some (q :: l)
      | none => none
      else none
    | _ => none

def keyForm (T : Lays) (k : TypeId) : Option (Bool × List IntKind) :=
  match T k with
  | some ⟨.int q, _, _, _⟩ => some (false, [q])
  | some ⟨.st fs, _, _, _⟩ => match intKinds T 0 fs with
    | some l => some (true, l)
    | none => none
  | _ => none

def keyInts : List AV → Option (List IntKind × List Int)
  | [] => some ([], [])
  | .imm (.val (.int k n)) :: l => match keyInts l with
    | some (ks, ns) => some (k :: ks, n :: ns)
    | none => none
  | _ => none

def keyOf (x : SV) : Option (Bool × List IntKind × List Int) :=
  match x with
  | .cv (.one (.imm (.val (.int k n)))) => some (false, [k], [n])
  | .cv (.agg l) => match keyInts l with
    | some (ks, ns) => some (true, ks, ns)
    | none => none
  | _ => none

def kindsEq : List IntKind → List IntKind → Bool
  | [], [] => true
  | x :: l, y :: m => bif kindEq x y then kindsEq l m else false
  | _, _ => false

def bEq : Bool → Bool → Bool
  | true, true => true
  | false, false => true
  | _, _ => false

def mapOf (H : Nat → Option ABlk) : AV → Option (Bool × List IntKind × Bool × Nat × (List Int → Bool) × (List Int → Nat → IV))
  | .imm (.mp ka kks va vn dom val) => some (ka, kks, va, vn, dom, val)
  | .omp b => match H b with
    | some (.mp ka kks va vn dom val) => some (ka, kks, va, vn, dom, val)
    | _ => none
  | _ => none

def ivInt : IV → Int
  | .val (.int _ n) => n
  | _ => 0
def ivBool : IV → Bool
  | .val (.bool b) => b
  | _ => false

def ivStr : IV → ByteArray
  | .val (.string s) => s
  | _ => .empty
/-- A cell out of a map, or its zero. -/
def selIV (c : Bool) (x : IV) (z : Value) : IV × Prop :=
  match z with
  | .int q n => (.val (.int q (bif c then ivInt x else n)), c = true → x = .val (.int q (ivInt x)))
  | .bool b => (.val (.bool (bif c then ivBool x else b)), c = true → x = .val (.bool (ivBool x)))
  | .string b => (.val (.string (bif c then ivStr x else b)), c = true → x = .val (.string (ivStr x)))
  | z => (bif c then x else ivOf z, True)

def selL (c : Bool) (f : Nat → IV) : Nat → List Value → List AV × Prop
  | _, [] => ([], True)
  | j, z :: l => (.imm (selIV c (f j) z).1 :: (selL c f (j + 1) l).1, (selIV c (f j) z).2 ∧ (selL c f (j + 1) l).2)

/-- A part of an aggregate. -/
def partC (L : Lay) (l : List AV) (off : Nat) : Option CV := bif lenIs ((l.drop off).take L.size) L.size then mk (isAgg L.kind) ((l.drop off).take L.size) else none
def eqFs (g : TypeId → CV → CV → Option Bool) (T : Lays) (l m : List AV) : List (Nat × TypeId) → Option Bool
  | [] => some true
  | (off, ft) :: fs => match T ft with
    | some L => match partC L l off, partC L m off with
      | some x, some y => match g ft x y, eqFs g T l m fs with
        | some a, some b => some (a && b)
        | _, _ => none
      | _, _ => none
    | none => none
def eqEs (g : CV → CV → Option Bool) (L : Lay) (l m : List AV) : Nat → Nat → Option Bool
  | 0, _ => some true
  | k + 1, i => match partC L l (i * L.size), partC L m (i * L.size) with
    | some x, some y => match g x y, eqEs g L l m k (i + 1) with
      | some a, some b => some (a && b)
      | _, _ => none
    | _, _ => none
/-- What is comparable: integers, truth values, structs and arrays of these. -/
def eqTy (T : Lays) : Nat → TypeId → CV → CV → Option Bool
  | 0, _, _, _ => none
  | f + 1, t, x, y => match T t with
    | some ⟨.int _, _, _, _⟩ => match x, y with
      | .one (.imm (.val (.int k a))), .one (.imm (.val (.int k' b))) => bif kindsEq [k] [k'] then some (a == b) else none
      | _, _ => none
    | some ⟨.bool, _, _, _⟩ => match x, y with
      | .one (.imm (.val (.bool a))), .one (.imm (.val (.bool b))) => some (a == b)
      | _, _ => none
    | some ⟨.st fs, _, _, _⟩ => match x, y with
      | .agg l, .agg m => eqFs (eqTy T f) T l m fs
      | _, _ => none
    | some ⟨.arr n e, _, _, _⟩ => match x, y, T e with
      | .agg l, .agg m, some L => eqEs (eqTy T f e) L l m n 0
      | _, _, _ => none
    | _ => none

/-- Structs of integers, compared. -/
def aggB0 (T : Lays) (op : BinOp) (t : TypeId) (x y : SV) : Option Bool :=
  match op, x, y with
  | .eql, .cv (.agg l), .cv (.agg m) => match keyForm T t, keyInts l, keyInts m with
    | some (true, kks), some (k1, xs), some (k2, ys) => bif kindsEq kks k1 && kindsEq kks k2 then some (eqI xs ys) else none
    | _, _, _ => none
  | .neq, .cv (.agg l), .cv (.agg m) => match keyForm T t, keyInts l, keyInts m with
    | some (true, kks), some (k1, xs), some (k2, ys) => bif kindsEq kks k1 && kindsEq kks k2 then some (!(eqI xs ys)) else none
    | _, _, _ => none
  | _, _, _ => none

def aggB1 (T : Lays) (op : BinOp) (t : TypeId) (x y : SV) : Option Bool :=
  match op, x, y with
  | .eql, .cv (.agg l), .cv (.agg m) => eqTy T 9 t (.agg l) (.agg m)
  | .neq, .cv (.agg l), .cv (.agg m) => match eqTy T 9 t (.agg l) (.agg m) with
    | some b => some (!b)
    | none => none
  | _, _, _ => none
def aggB (T : Lays) (op : BinOp) (t : TypeId) (x y : SV) : Option Bool := match aggB0 T op t x y with
  | some b => some b
  | none => aggB1 T op t x y

/-- A sum that is its second part, where the first one is 0. -/
def plusN (r x : Nat) : Nat := match r with
  | 0 => x
  | r + 1 => r + 1 + x
theorem plusN_eq (r x : Nat) : plusN r x = r + x := by cases r <;> simp [plusN]

abbrev Tab := FuncId → List CV → Option (SV × Prop)

def bound (E : Nat → SV) (dflt : Int) : Option Operand → Option (Int × Prop)
  | none => some (dflt, True)
  | some x => match rd E x with
    | .cv (.one (.imm (.val (.int _ z)))) => some (z, need E x)
    | _ => none

/-- What an operation that changes no memory yields. -/
def isNoneB {α : Type} : Option α → Bool
  | none => true
  | some _ => false

/-- Cells that are all integers of one kind. -/
def allKind (k : IntKind) : List IntKind → Bool
  | [] => true
  | q :: l => bif kindEq k q then allKind k l else false
def intsOf (n : Nat) (L : Lay) (l : List AV) : Option (IntKind × List Int) :=
  match L.kind with
  | .int k => bif Nat.beq L.size 1 && lenIs l n then match keyInts l with
    | some (ks, ns) => bif allKind k ks then some (k, ns) else none
    | none => none
    else none
  | _ => none

def evalV (T : Lays) (H : Nat → Option ABlk) (E : Nat → SV) (o : Op) : Option (SV × Prop) :=
  match o with
  | .move x | .assign x => some (rd E x, need E x)
  | .pick c a b => match rd E c, rd E a, rd E b with
    | .cv (.one (.imm (.val (.bool c')))), .cv (.one (.imm (.val (.bool x)))), .cv (.one (.imm (.val (.bool y)))) =>
      some (.cv (ibool (bif c' then x else y)), need E c ∧ ((c' == true) = true → need E a) ∧ ((c' == false) = true → need E b))
    | _, _, _ => none
  | .load t a => match T t, rd E a with
    | some L, .cv (.one p) => match loadAt H p L.size with
      | some (l, q) => match mk (isAgg L.kind) l with
        | some c => some (.cv c, need E a ∧ q)
        | none => none
      | none => none
    | _, _ => none
  | .fieldAddr t x f => match T t with
    | some ⟨.st fs, _, _, _⟩ => match fs[f]? with
      | some (off, ft) => match T ft, rd E x with
        | some L, .cv (.one (.own b e i j)) => bif Nat.beq L.size 0 then none else some (.cv (.one (.own b e i (j + off))), need E x)
        | some L, .cv (.one (.vptr n cell)) => bif Nat.beq L.size 0 || !(Nat.ble off n) then none else some (.cv (.one (.vptr (n - off) fun q => cell (off + q))), need E x)
        | _, _ => none
      | none => none
    | _ => none
  | .field t x f => match T t with
    | some ⟨.st fs, _, _, _⟩ => match fs[f]? with
      | some (off, ft) => match T ft, rd E x with
        | some L, .cv (.agg l) => let r := (l.drop off).take L.size
          bif lenIs r L.size then match mk (isAgg L.kind) r with
            | some c => some (.cv c, need E x)
            | none => none
          else none
        | _, _ => none
      | none => none
    | _ => none
  | .indexAddr t x ix => match T t, rd E ix with
    | some ⟨.sl e, _, _, _⟩, .cv (.one (.imm (.val (.int _ z)))) => match T e, rd E x with
      | some L, .cv (.one (.imm (.sl s n _ cell))) => bif Nat.beq s L.size then some (.cv (.one (.vptr s (cell z.toNat))), need E x ∧ need E ix ∧ 0 ≤ z ∧ z < n) else none
      | some L, .cv (.one (.osl b s r j len _)) => bif Nat.beq s L.size then some (.cv (.one (.own b s (plusN r z.toNat) j)), need E x ∧ need E ix ∧ 0 ≤ z ∧ z < len) else none
      | _, _ => none
    | some ⟨.arr n e, _, _, _⟩, .cv (.one (.imm (.val (.int _ z)))) => match T e, rd E x with
      | some L, .cv (.one (.own b e' i j)) => some (.cv (.one (.own b e' i (j + z.toNat * L.size))), need E x ∧ need E ix ∧ 0 ≤ z ∧ z < n)
      | some L, .cv (.one (.vptr m cell)) => some (.cv (.one (.vptr (m - z.toNat * L.size) fun q => cell (z.toNat * L.size + q))), need E x ∧ need E ix ∧ 0 ≤ z ∧ z < n)
      | _, _ => none
    | _, _ => none
  | .index t x ix => match T t, rd E ix with
    | some ⟨.arr n e, _, _, _⟩, .cv (.one (.imm (.val (.int _ z)))) => match T e, rd E x with
      | some L, .cv (.agg l) => match intsOf n L l with
        | some (k, ns) => some (.cv (ione (.int k (ns.getD z.toNat 0))), need E x ∧ need E ix ∧ 0 ≤ z ∧ z < n)
        | none => let r := (l.drop (z.toNat * L.size)).take L.size
          bif lenIs r L.size then match mk (isAgg L.kind) r with
            | some c => some (.cv c, need E x ∧ need E ix ∧ 0 ≤ z ∧ z < n)
            | none => none
          else none
      | _, _ => none
    | some ⟨.str, _, _, _⟩, .cv (.one (.imm (.val (.int _ z)))) => match rd E x with
      | .cv (.one (.imm (.val (.string s)))) => some (.cv (ione (.int .u8 (s.data.getD z.toNat 0).toNat)), need E x ∧ need E ix ∧ 0 ≤ z ∧ z < s.size)
      | _ => none
    | _, _ => none
  | .entry x => match rd E x with
    | .cv (.one (.own b e i j)) => bif Nat.beq (i * e + j) 0 then match H b with
      | some (.it ka kks va vn _ val seen) => match lastK seen with
        | some ks => match keyC ka kks ks, mk va ((List.range vn).map fun j => .imm (val ks j)) with
          | some k, some c => some (.tup [k, c], need E x)
          | _, _ => none
        | none => none
      | _ => none
      else none
    | _ => none
  | .binOp op t x y _ => match aggB T op t (rd E x) (rd E y) with
    | some b => some (.cv (ibool b), need E x ∧ need E y)
    | none => match binV (isBool (T t)) op (rd E x) (rd E y) with
      | some (v, p) => some (.cv (ione v), need E x ∧ need E y ∧ p)
      | none => none
  | .lookup t x ix ok => match T t, rd E x, keyOf (rd E ix) with
    | some ⟨.map k e, _, _, _⟩, .cv (.one m), some (ka, kks, ks) => match keyForm T k, T e, mapOf H m with
      | some (ka', kks'), some L, some (ka2, kks2, va, vn, dom, val) =>
        bif bEq ka ka' && kindsEq kks kks' && (bEq ka ka2 && kindsEq kks kks2) && (bEq va (isAgg L.kind) && Nat.beq vn L.size) then
          match mk (isAgg L.kind) (selL (dom ks) (val ks) 0 L.zero).1 with
          | some c => some (bif ok then .tup [c, ibool (dom ks)] else .cv c, need E x ∧ need E ix ∧ (selL (dom ks) (val ks) 0 L.zero).2)
          | none => none
        else none
      | _, _, _ => none
    | _, _, _ => none
  | .unOp op _ x => match op, rd E x with
    | .not, .cv (.one (.imm (.val (.bool b)))) => some (.cv (ibool (!b)), need E x)
    | .neg, .cv (.one (.imm (.val (.int k n)))) => some (.cv (ione (.int k (k.wrap (0 - n)))), need E x)
    | _, _ => none
  | .convert s d x => match T s, T d, rd E x with
    | some _, some ⟨.int k, _, _, _⟩, .cv (.one (.imm (.val (.int _ n)))) => some (.cv (ione (.int k (k.wrap n))), need E x)
    | some ⟨.sl e, _, _, _⟩, some ⟨.str, _, _, _⟩, .cv (.one (.osl b s r j n _)) => match T e, H b with
      | some ⟨.int .u8, _, _, _⟩, some (.rows _ e' N cell) => bif Nat.beq s 1 && (Nat.beq e' 1 && Nat.beq j 0) then match u8L ((List.range n).map fun i => cell (plusN r i) 0) with
        | some ks => some (.cv (ione (.string (strOfNums ks))), need E x ∧ r + n ≤ N)
        | none => none
        else none
      | _, _ => none
    | _, _, _ => none
  | .extract x i => match rd E x with
    | .tup l => match l[i]? with
      | some c => some (.cv c, need E x)
      | none => none
    | _ => none
  | .nilCheck x => match rd E x with
    | .cv (.one (.own b e i j)) => some (.cv (.one (.own b e i j)), need E x)
    | .cv (.one (.vptr n cell)) => some (.cv (.one (.vptr n cell)), need E x)
    | .cv (.one (.fn (.func f) nf first nc caps)) => some (.cv (.one (.fn (.func f) nf first nc caps)), need E x)
    | _ => none
  | .build t parts => match T t with
    | some ⟨.st fs, sz, by_, z⟩ => match fillS T E fs (zeros ⟨.st fs, sz, by_, z⟩) parts.toList with
      | some (l, p) => some (.cv (.agg l), p)
      | none => none
    | some ⟨.arr n e, sz, by_, z⟩ => match T e with
      | some L => match fillA E L.size (zeros ⟨.arr n e, sz, by_, z⟩) parts.toList with
        | some (l, p) => some (.cv (.agg l), p)
        | none => none
      | none => none
    | _ => none
  | .makeFunc f first caps => match listAV E first.toList, listAV E caps.toList with
    | some (l, p), some (m, q) => some (.cv (.one (.fn f l.length (fun i => l.getD i avDef) m.length fun i => m.getD i avDef)), p ∧ q)
    | _, _ => none
  | .slice t x lo hi mx => match T t, rd E x with
    | some ⟨.sl e, _, _, _⟩, .cv (.one (.imm (.sl s n ex cell))) => match T e, bound E 0 lo, bound E n hi with
      | some L, some (l, pl), some (h, ph) => bif Nat.beq L.size s || Nat.beq n 0 then match mx with
        | none => some (.cv (.one (.imm (.sl s (h - l).toNat (match hi with | none => ex | some _ => false) fun i j => cell (plusN l.toNat i) j))), need E x ∧ pl ∧ ph ∧ 0 ≤ l ∧ l ≤ h ∧ h ≤ n)
        | some m => match hi, bound E 0 (some m) with
          | some _, some (m', pm) => some (.cv (.one (.imm (.sl s (h - l).toNat (decide (m' = h)) fun i j => cell (plusN l.toNat i) j))), need E x ∧ pl ∧ ph ∧ pm ∧ 0 ≤ l ∧ l ≤ h ∧ h ≤ m' ∧ m' ≤ n)
          | _, _ => none
        else none
      | _, _, _ => none
    | some ⟨.sl e, _, _, _⟩, .cv (.one (.osl b s r 0 n app)) => match T e, bound E 0 lo, bound E n hi, mx with
      | some L, some (l, pl), some (h, ph), none => bif Nat.beq L.size s then
          some (.cv (.one (.osl b s (plusN r l.toNat) 0 (h - l).toNat (bif isNoneB lo then app else false))), need E x ∧ pl ∧ ph ∧ 0 ≤ l ∧ l ≤ h ∧ h ≤ n)
        else none
      | _, _, _, _ => none
    | some ⟨.arr m e, _, _, _⟩, .cv (.one (.vptr k cell)) => match T e, bound E 0 lo, bound E m hi, mx with
      | some L, some (l, pl), some (h, ph), none => bif Nat.ble (m * L.size) k && Nat.ble m 1000000 then
          some (.cv (.one (.imm (.sl L.size (h - l).toNat (isNoneB hi) fun i j => cell ((l.toNat + i) * L.size + j)))), need E x ∧ pl ∧ ph ∧ 0 ≤ l ∧ l ≤ h ∧ h ≤ m)
        else none
      | _, _, _, _ => none
    | some ⟨.str, _, _, _⟩, .cv (.one (.imm (.val (.string s)))) => match bound E 0 lo, bound E s.size hi, mx with
      | some (l, pl), some (h, ph), none => some (.cv (.one (.imm (.val (.string (s.extract l.toNat h.toNat))))), need E x ∧ pl ∧ ph ∧ 0 ≤ l ∧ l ≤ h ∧ h ≤ s.size)
      | _, _, _ => none
    | _, _ => none
  | .call c => match c.callee with
    | .builtin .len => match c.argTypes.toList, c.args.toList with
      | [t], [x] => match T t, rd E x with
        | some ⟨.sl _, _, _, _⟩, .cv (.one (.imm (.sl _ n _ _))) => some (.cv (iint n), need E x)
        | some ⟨.sl _, _, _, _⟩, .cv (.one (.osl _ _ _ _ n _)) => some (.cv (iint n), need E x)
        | some ⟨.str, _, _, _⟩, .cv (.one (.imm (.val (.string s)))) => some (.cv (iint s.size), need E x)
        | some ⟨.arr n _, _, _, _⟩, _ => some (.cv (iint n), True)
        | _, _ => none
      | _, _ => none
    | .builtin .min => match c.args.toList with
      | [x, y] => match rd E x, rd E y with
        | .cv (.one (.imm (.val (.int k a)))), .cv (.one (.imm (.val (.int _ b)))) => some (.cv (ione (.int k (if b < a then b else a))), need E x ∧ need E y)
        | _, _ => none
      | _ => none
    | .builtin .max => match c.args.toList with
      | [x, y] => match rd E x, rd E y with
        | .cv (.one (.imm (.val (.int k a)))), .cv (.one (.imm (.val (.int _ b)))) => some (.cv (ione (.int k (if b > a then b else a))), need E x ∧ need E y)
        | _, _ => none
      | _ => none
    | _ => none
  | _ => none
end Go.Proofs.YtmpddomgiplnmaaDoor.Abs

/-
  WHAT THE EVALUATOR ANSWERS FOR AN OPERATION THAT CHANGES NO MEMORY IS WHAT THE MODEL YIELDS. Over any program whose types the table of layouts tells.
-/
namespace Go.Proofs.YtmpddomgiplnmaaDoor.Abs
open Go

section lay
variable {P : Program}

theorem lay_info {t : TypeId} {x : Lay} (h : LayOk1 P t x) : ∃ i d, P.info? t = some i ∧ i.size = x.size ∧ i.bytes = x.bytes ∧ (∃ z, i.zero = some z ∧ z.cells.toList = x.zero) ∧ P.underlying t = some d ∧ kindOf d = x.kind := by
  obtain ⟨h1, h2⟩ := h
  rw [Option.map_eq_some_iff] at h1 h2
  obtain ⟨i, hi, he⟩ := h1
  obtain ⟨d, hd, hk⟩ := h2
  simp only [Prod.mk.injEq] at he
  obtain ⟨e1, e2, e3⟩ := he
  rw [Option.map_eq_some_iff] at e3
  exact ⟨i, d, hi, e1, e2, e3, hd, hk⟩

theorem run_isAgg {t : TypeId} {x : Lay} (h : LayOk1 P t x) (w : World) : (Go.isAgg t).run P w = .ok (isAgg x.kind) w := by
  obtain ⟨i, d, _, _, _, _, hd, hk⟩ := lay_info h
  rw [← hk]
  unfold Go.isAgg
  cases d <;> simp [run_underlying hd, kindOf, isAgg]

theorem run_sizeOf {t : TypeId} {x : Lay} (h : LayOk1 P t x) (w : World) : (sizeOf t).run P w = .ok x.size w := by
  obtain ⟨i, d, hi, hs, _, _, _, _⟩ := lay_info h
  simp [sizeOf, typeInfo, hi, hs]

theorem under_sl {t e : TypeId} {s b : Nat} {z : List Value} (h : LayOk1 P t ⟨.sl e, s, b, z⟩) : P.underlying t = some (.slice e) := by
  obtain ⟨i, d, _, _, _, _, hd, hk⟩ := lay_info h
  cases d <;> simp [kindOf] at hk
  subst hk; exact hd

theorem under_arr {t e : TypeId} {n s b : Nat} {z : List Value} (h : LayOk1 P t ⟨.arr n e, s, b, z⟩) : P.underlying t = some (.array n e) := by
  obtain ⟨i, d, _, _, _, _, hd, hk⟩ := lay_info h
  cases d <;> simp [kindOf] at hk
  obtain ⟨rfl, rfl⟩ := hk; exact hd

theorem under_int {t : TypeId} {k : IntKind} {s b : Nat} {z : List Value} (h : LayOk1 P t ⟨.int k, s, b, z⟩) : P.underlying t = some (.int k) := by
  obtain ⟨i, d, _, _, _, _, hd, hk⟩ := lay_info h
  cases d <;> simp [kindOf] at hk
  subst hk; exact hd

theorem under_str {t : TypeId} {s b : Nat} {z : List Value} (h : LayOk1 P t ⟨.str, s, b, z⟩) : P.underlying t = some .string := by
  obtain ⟨i, d, _, _, _, _, hd, hk⟩ := lay_info h
  cases d <;> simp [kindOf] at hk
  exact hd

theorem under_st {t : TypeId} {fs : List (Nat × TypeId)} {s b : Nat} {z : List Value} (h : LayOk1 P t ⟨.st fs, s, b, z⟩) : ∃ fields : Array Field, P.underlying t = some (.struct fields) ∧ (fields.toList.map fun f => (f.offset, f.type)) = fs := by
  obtain ⟨i, d, _, _, _, _, hd, hk⟩ := lay_info h
  cases d <;> simp [kindOf] at hk
  exact ⟨_, hd, by simpa using hk⟩
end lay

section
variable {P : Program} {T : Lays} {F : Nat → Prop} {w : World} {O : Nat → Prop} {μ : Nat → Option Nat} {E : Nat → SV} {a : Act}

/-- What is in the slots is what the abstract environment tells. -/
def ERel (w : World) (O : Nat → Prop) (μ : Nat → Option Nat) (E : Nat → SV) (a : Act) : Prop := ∀ t, SRel w O μ (E t) (a.tmps.getD t Go.undef)

theorem ivOf_rel {u : Value} (h : One u) : IRel w O (ivOf u) u := by
  unfold ivOf
  split
  · exact .inl ⟨⟨none, rfl⟩, rfl⟩
  · exact ⟨rfl, h⟩

theorem LRel.vals {cs : List Value} (h : ∀ u ∈ cs, One u) : LRel w O μ (cs.map fun u => .imm (ivOf u)) cs := by
  refine ⟨by simp, fun i x u h1 h2 => ?_⟩
  simp only [List.getElem?_map, h2, Option.map_some, Option.some.injEq] at h1
  subst h1
  exact ivOf_rel (h u (List.mem_of_getElem? h2))

theorem evConst_sound (v : Value) : SRel w O μ (evConst v) v := by
  unfold evConst
  split
  · rename_i cs
    cases hc : cs.toList.all (·.oneCell')
    · trivial
    · rw [List.all_eq_true] at hc
      exact ⟨cs.toList, by simp, LRel.vals hc⟩
  · trivial
  · rename_i h1 h2
    refine ivOf_rel ?_
    cases v <;> first | rfl | (exact absurd rfl (h1 _)) | (exact absurd rfl (h2 _))

theorem evS_sound (hE : ERel w O μ E a) (x : Operand) : SRel w O μ (evS E x) (a.eval x) := by
  cases x with
  | tmp t => exact hE t
  | const v => exact evConst_sound v
  | global g => trivial
  | func f => exact ⟨[], [], rfl, rfl, rfl, fun i u h => by simp at h, fun i u h => by simp at h⟩

theorem rd_sound (hE : ERel w O μ E a) (x : Operand) (hn : need E x) : SRel w O μ (rd E x) (a.eval x) := by
  have h := evS_sound hE x
  unfold rd
  unfold need at hn
  cases hs : evS E x with
  | gd c s =>
    rw [hs] at h hn
    have hc : c = true := hn
    unfold SRel at h
    rw [if_pos hc] at h
    exact h
  | undef => trivial
  | cv x => rw [hs] at h; exact h
  | tup l => rw [hs] at h; exact h

theorem rd_one {x : Operand} {y : AV} (hE : ERel w O μ E a) (h : rd E x = .cv (.one y)) (hn : need E x) : ARel w O μ y (a.eval x) := by
  have := rd_sound hE x hn; rw [h] at this; exact this
theorem rd_val {x : Operand} {v : Value} (hE : ERel w O μ E a) (h : rd E x = .cv (.one (.imm (.val v)))) (hn : need E x) : a.eval x = v := (rd_one hE h hn).1
theorem rd_cv {x : Operand} {c : CV} (hE : ERel w O μ E a) (h : rd E x = .cv c) (hn : need E x) : CRel w O μ c (a.eval x) := by
  have := rd_sound hE x hn; rw [h] at this; exact this
theorem rd_tup {x : Operand} {l : List CV} (hE : ERel w O μ E a) (h : rd E x = .tup l) (hn : need E x) : ∃ vs : List Value, a.eval x = .tuple vs.toArray ∧ TRel w O μ l vs := by
  have := rd_sound hE x hn; rw [h] at this; exact this

theorem lenIs_eq : ∀ (l : List AV) (n : Nat), lenIs l n = true → l.length = n
  | [], 0, _ => rfl
  | [], n + 1, h => by simp [lenIs] at h
  | _ :: l, 0, h => by simp [lenIs] at h
  | _ :: l, n + 1, h => by simp [lenIs] at h; simp [lenIs_eq l n h]

theorem mk_sound {b : Bool} {l : List AV} {c : CV} {cs : List Value} (h : mk b l = some c) (hl : LRel w O μ l cs) : ∃ v, CRel w O μ c v ∧ ((b = true ∧ v = .agg cs.toArray) ∨ (b = false ∧ cs = [v])) := by
  unfold mk at h
  cases b with
  | true => simp at h; subst h; exact ⟨.agg cs.toArray, ⟨cs, rfl, hl⟩, .inl ⟨rfl, rfl⟩⟩
  | false =>
    simp only [cond_false] at h
    split at h
    · rename_i x
      cases h
      obtain ⟨hlen, hr⟩ := hl
      match cs, hlen with
      | [v], _ => exact ⟨v, hr 0 x v rfl rfl, .inr ⟨rfl, rfl⟩⟩
    · cases h

theorem ofFn_get (n : Nat) (f : Nat → AV) (i : Nat) : (ofFn n f)[i]? = if i < n then some (f i) else none := by
  simp only [ofFn, List.getElem?_map]
  by_cases h : i < n
  · simp [h]
  · simp [h]

theorem ofFn_length (n : Nat) (f : Nat → AV) : (ofFn n f).length = n := by simp [ofFn]

/-- Cells that are read one by one are a list. -/
theorem collect {α : Type} (n : Nat) (p : Nat → α → Prop) (h : ∀ j, j < n → ∃ u, p j u) : ∃ cs : List α, cs.length = n ∧ ∀ (j : Nat) u, cs[j]? = some u → p j u := by
  induction n with
  | zero => exact ⟨[], rfl, fun j u hu => by simp at hu⟩
  | succ n ih =>
    obtain ⟨cs, hl, hc⟩ := ih fun j hj => h j (by omega)
    obtain ⟨u, hu⟩ := h n (by omega)
    refine ⟨cs ++ [u], by simp [hl], fun j v hv => ?_⟩
    rw [List.getElem?_append] at hv
    split at hv
    · exact hc j v hv
    · rename_i hlt
      have : j = n := by
        rcases Nat.lt_or_ge j (n + 1) with h1 | h1
        · omega
        · rw [List.getElem?_eq_none (by simp; omega)] at hv; cases hv
      subst this
      simp [hl] at hv
      exact hv ▸ hu

theorem loadAt_sound {H : Nat → Option ABlk} {nx : Nat} (hH : HRel F w μ H nx) {p : AV} {v : Value} {size : Nat} {l : List AV} {q : Prop}
    (hp : ARel w (Own F H μ) μ p v) (h : loadAt H p size = some (l, q)) (hq : q) :
    ∃ b o, v = .pointer (some ⟨b, o, none⟩) ∧ ∃ cs : List Value, cs.length = size ∧ LRel w (Own F H μ) μ l cs ∧ ∀ (j : Nat) u, cs[j]? = some u → w.cell? ⟨b, o + j, none⟩ = some u := by
  cases p with
  | own b e i j =>
    obtain ⟨m, hm, rfl⟩ := hp
    simp only [loadAt] at h
    cases hB : H b with
    | none => rw [hB] at h; cases h
    | some B =>
      rw [hB] at h
      obtain ⟨_, hR⟩ := hH.blk b B hB
      cases B with
      | var ty cells =>
        obtain ⟨m', cur, hm', hw, hl⟩ := hR
        obtain rfl : m' = m := by rw [hm] at hm'; exact (Option.some.inj hm').symm
        simp only at h
        cases hlen : lenIs ((cells.drop (i * e + j)).take size) size with
        | false => rw [hlen] at h; simp at h
        | true =>
          rw [hlen] at h; simp at h
          obtain ⟨rfl, _⟩ := h
          refine ⟨m', i * e + j, rfl, (cur.toList.drop (i * e + j)).take size, ?_, (hl.drop _).take _, fun k u hu => ?_⟩
          · have := lenIs_eq _ _ hlen
            have h2 := hl.1
            simp only [List.length_take, List.length_drop] at this ⊢
            omega
          · rw [List.getElem?_take] at hu
            split at hu
            · rw [List.getElem?_drop] at hu
              simp only [World.cell?, hw]
              simpa using hu
            · cases hu
      | mp => simp at h
      | it => simp at h
      | rows ty e' n cell =>
        simp only at h
        cases hc : (Nat.beq e e' && Nat.ble (j + size) e') with
        | false => rw [hc] at h; simp at h
        | true =>
          rw [hc] at h; simp at h
          obtain ⟨rfl, hiff⟩ := h
          have hq : i < n := hiff.2 hq
          simp only [Bool.and_eq_true] at hc
          obtain ⟨he, hj⟩ := hc
          have he := Nat.eq_of_beq_eq_true he
          have hj := Nat.le_of_ble_eq_true hj
          subst he
          rcases hR with ⟨_, hn⟩ | ⟨m', cur, hm', hw, _, hcell⟩
          · omega
          obtain rfl : m' = m := by rw [hm] at hm'; exact (Option.some.inj hm').symm
          obtain ⟨cs, hl, hcs⟩ := collect size (fun k u => cur[i * e + (j + k)]? = some u ∧ IRel w (Own F H μ) (cell i (j + k)) u) fun k hk => hcell i hq (j + k) (by omega)
          refine ⟨m', i * e + j, rfl, cs, hl, ⟨by rw [ofFn_length]; exact hl, fun k x u hx hu => ?_⟩, fun k u hu => ?_⟩
          · rw [ofFn_get] at hx
            split at hx
            · cases hx; exact (hcs k u hu).2
            · cases hx
          · have := (hcs k u hu).1
            simp only [World.cell?, hw]
            simpa [Nat.add_assoc] using this
  | vptr n cell =>
    obtain ⟨b, o, rfl, _, _, hcell⟩ := hp
    simp only [loadAt] at h
    cases hc : Nat.ble size n with
    | false => rw [hc] at h; simp at h
    | true =>
      rw [hc] at h; simp at h
      obtain ⟨rfl, _⟩ := h
      have hc := Nat.le_of_ble_eq_true hc
      obtain ⟨cs, hl, hcs⟩ := collect size (fun k u => w.cell? ⟨b, o + k, none⟩ = some u ∧ IRel w (Own F H μ) (cell k) u) fun k hk => hcell k (by omega)
      refine ⟨b, o, rfl, cs, hl, ⟨by rw [ofFn_length]; exact hl, fun k x u hx hu => ?_⟩, fun k u hu => (hcs k u hu).1⟩
      rw [ofFn_get] at hx
      split at hx
      · cases hx; exact (hcs k u hu).2
      · cases hx
  | imm x => simp [loadAt] at h
  | osl b e r j len app => simp [loadAt] at h
  | omp b => simp [loadAt] at h
  | fn f nf first nc caps => simp [loadAt] at h
end
end Go.Proofs.YtmpddomgiplnmaaDoor.Abs

/-
  WHAT THE EVALUATOR ANSWERS FOR AN OPERATION THAT CHANGES NO MEMORY IS WHAT THE MODEL YIELDS (2): operation by operation.
-/
namespace Go.Proofs.YtmpddomgiplnmaaDoor.Abs
open Go

section
variable {P : Program} {T : Lays} {F : Nat → Prop} {tab : Tab} {w : World} {μ : Nat → Option Nat} {H : Nat → Option ABlk} {nx : Nat} {E : Nat → SV} {a : Act}

/-- An operation yields a value, of which the abstract one tells; the world stays. -/
def Yield (P : Program) (w : World) (O : Nat → Prop) (μ : Nat → Option Nat) (a : Act) (o : Oper) (x : SV) : Prop :=
  ∃ v, (execOp a.eval o).run P w = .ok (.value v) w ∧ SRel w O μ x v

theorem yield_move {O : Nat → Prop} {o : Oper} {x : Operand} (hE : ERel w O μ E a) (ho : o.op = .move x ∨ o.op = .assign x) (hn : need E x) : Yield P w O μ a o (rd E x) := by
  refine ⟨a.eval x, ?_, rd_sound hE x hn⟩
  rcases ho with ho | ho <;> simp [execOp, ho]

theorem yield_pick {O : Nat → Prop} {o : Oper} {c x y : Operand} {b bx y_ : Bool} (hE : ERel w O μ E a) (ho : o.op = .pick c x y)
    (hc : rd E c = .cv (.one (.imm (.val (.bool b))))) (hx : rd E x = .cv (.one (.imm (.val (.bool bx))))) (hy : rd E y = .cv (.one (.imm (.val (.bool y_)))))
    (hn : need E c) (h1 : b = true → need E x) (h2 : b = false → need E y) : Yield P w O μ a o (.cv (ibool (bif b then bx else y_))) := by
  have e0 := rd_val hE hc hn
  refine ⟨.bool (bif b then bx else y_), ?_, ⟨rfl, rfl⟩⟩
  cases b
  · have e2 := rd_val hE hy (h2 rfl)
    simp [execOp, ho, e0, e2, asBool]
  · have e1 := rd_val hE hx (h1 rfl)
    simp [execOp, ho, e0, e1, asBool]

theorem yield_load {o : Oper} {t : TypeId} {x : Operand} {L : Lay} {p : AV} {l : List AV} {q : Prop} {c : CV} (hT : LayOk P T) (hH : HRel F w μ H nx) (hE : ERel w (Own F H μ) μ E a) (ho : o.op = .load t x)
    (hL : T t = some L) (hx : rd E x = .cv (.one p)) (hl : loadAt H p L.size = some (l, q)) (hm : mk (isAgg L.kind) l = some c) (hn : need E x) (hq : q) : Yield P w (Own F H μ) μ a o (.cv c) := by
  obtain ⟨b, off, hv, cs, hlen, hrel, hcell⟩ := loadAt_sound hH (rd_one hE hx hn) hl hq
  obtain ⟨v, hcv, hk⟩ := mk_sound hm hrel
  refine ⟨v, ?_, hcv⟩
  have hrun : (loadCells ⟨b, off, none⟩ L.size).run P w = .ok cs.toArray w := by
    rw [← hlen]
    exact run_loadCells_list w ⟨b, off, none⟩ cs fun j u hu => by rw [Addr.add_lit]; exact hcell j u hu
  have hag := run_isAgg (hT t L hL) w
  have hsz := run_sizeOf (hT t L hL) w
  rcases hk with ⟨hb, rfl⟩ | ⟨hb, hcs⟩
  · rw [hb] at hag
    simp [execOp, ho, hv, Instr.loadAt, Instr.sureAddr, loadVar, hag, hsz, hrun]
  · rw [hb] at hag
    subst hcs
    have h0 : w.cell? ⟨b, off, none⟩ = some v := by simpa using hcell 0 v rfl
    simp [execOp, ho, hv, Instr.loadAt, Instr.sureAddr, loadVar, hag, h0]

theorem yield_fieldAddr {O : Nat → Prop} {o : Oper} {t ft : TypeId} {x : Operand} {f off : Nat} {fs : List (Nat × TypeId)} {s b : Nat} {z : List Value} {L : Lay} {b' o' : Nat} {r : AV} (hT : LayOk P T)
    (ho : o.op = .fieldAddr t x f) (hL : T t = some ⟨.st fs, s, b, z⟩) (hf : fs[f]? = some (off, ft)) (hF : T ft = some L) (hne : L.size ≠ 0) (hv : a.eval x = .pointer (some ⟨b', o', none⟩))
    (hr : ARel w O μ r (.pointer (some ⟨b', o' + off, none⟩))) : Yield P w O μ a o (.cv (.one r)) := by
  refine ⟨.pointer (some ⟨b', o' + off, none⟩), ?_, hr⟩
  obtain ⟨fields, hu, hfs⟩ := under_st (hT t _ hL)
  subst hfs
  rw [List.getElem?_map, Option.map_eq_some_iff] at hf
  obtain ⟨fd, hfd, he⟩ := hf
  simp only [Prod.mk.injEq] at he
  obtain ⟨rfl, rfl⟩ := he
  have hfd : fields[f]? = some fd := by simpa using hfd
  have hsz := run_sizeOf (hT _ L hF) w
  simp [execOp, ho, hv, Instr.fieldAt, run_underlying hu, hfd, Instr.sureAddr, fieldPlace, hsz, hne, Addr.add_lit]

theorem part_run {O : Nat → Prop} {t : TypeId} {L : Lay} {l : List AV} {cs : List Value} {off : Nat} {c : CV} (hT : LayOk1 P t L) (hl : LRel w O μ l cs) (hlen : lenIs ((l.drop off).take L.size) L.size = true)
    (hm : mk (isAgg L.kind) ((l.drop off).take L.size) = some c) : ∃ v, (part t cs.toArray off).run P w = .ok v w ∧ CRel w O μ c v := by
  obtain ⟨v, hcv, hk⟩ := mk_sound hm ((hl.drop off).take L.size)
  refine ⟨v, ?_, hcv⟩
  have hag := run_isAgg hT w
  have hsz := run_sizeOf hT w
  have hlen := lenIs_eq _ _ hlen
  rcases hk with ⟨hb, rfl⟩ | ⟨hb, hcs⟩
  · rw [hb] at hag
    simp [part, hag, hsz]
  · rw [hb] at hag
    have h0 : cs[off]? = some v := by
      have : ((cs.drop off).take L.size)[0]? = some v := by rw [hcs]; rfl
      rw [List.getElem?_take] at this
      split at this
      · rw [List.getElem?_drop] at this; simpa using this
      · cases this
    have h0' : cs.toArray[off]? = some v := by simpa using h0
    simp only [part, Sem.run_bind, hag, Result.andThen_ok, Bool.false_eq_true, if_false, h0']
    rfl

theorem yield_field {O : Nat → Prop} {o : Oper} {t ft : TypeId} {x : Operand} {f off : Nat} {fs : List (Nat × TypeId)} {s b : Nat} {z : List Value} {L : Lay} {l : List AV} {c : CV} (hT : LayOk P T) (hE : ERel w O μ E a)
    (ho : o.op = .field t x f) (hL : T t = some ⟨.st fs, s, b, z⟩) (hf : fs[f]? = some (off, ft)) (hF : T ft = some L) (hx : rd E x = .cv (.agg l)) (hn : need E x)
    (hlen : lenIs ((l.drop off).take L.size) L.size = true) (hm : mk (isAgg L.kind) ((l.drop off).take L.size) = some c) : Yield P w O μ a o (.cv c) := by
  obtain ⟨cs, hv, hl⟩ := rd_cv hE hx hn
  obtain ⟨v, hrun, hr⟩ := part_run (hT _ L hF) hl hlen hm
  refine ⟨v, ?_, hr⟩
  obtain ⟨fields, hu, hfs⟩ := under_st (hT t _ hL)
  subst hfs
  rw [List.getElem?_map, Option.map_eq_some_iff] at hf
  obtain ⟨fd, hfd, he⟩ := hf
  simp only [Prod.mk.injEq] at he
  obtain ⟨rfl, rfl⟩ := he
  have hfd : fields[f]? = some fd := by simpa using hfd
  simp [execOp, ho, hv, Instr.field, run_underlying hu, hfd, asAgg, hrun]

theorem yield_index_arr {O : Nat → Prop} {o : Oper} {t e : TypeId} {x ix : Operand} {n s b : Nat} {z : List Value} {L : Lay} {l : List AV} {c : CV} {k : IntKind} {i : Int} (hT : LayOk P T) (hE : ERel w O μ E a)
    (ho : o.op = .index t x ix) (hL : T t = some ⟨.arr n e, s, b, z⟩) (hF : T e = some L) (hx : rd E x = .cv (.agg l)) (hn : need E x) (hi : rd E ix = .cv (.one (.imm (.val (.int k i))))) (hni : need E ix) (h0 : 0 ≤ i) (h1 : i < n)
    (hlen : lenIs ((l.drop (i.toNat * L.size)).take L.size) L.size = true) (hm : mk (isAgg L.kind) ((l.drop (i.toNat * L.size)).take L.size) = some c) : Yield P w O μ a o (.cv c) := by
  obtain ⟨cs, hv, hl⟩ := rd_cv hE hx hn
  have hiv := rd_val hE hi hni
  obtain ⟨v, hrun, hr⟩ := part_run (hT _ L hF) hl hlen hm
  refine ⟨v, ?_, hr⟩
  have hu := under_arr (hT t _ hL)
  have hsz := run_sizeOf (hT e L hF) w
  simp [execOp, ho, hv, hiv, Instr.index, asIntOf, run_underlying hu, h0, h1, hsz, hrun]

theorem yield_indexAddr_sl {O : Nat → Prop} {o : Oper} {t e : TypeId} {x ix : Operand} {s b : Nat} {z : List Value} {L : Lay} {k : IntKind} {i : Int} {b' o' n cap : Nat} {r : AV} (hT : LayOk P T) (hE : ERel w O μ E a)
    (ho : o.op = .indexAddr t x ix) (hL : T t = some ⟨.sl e, s, b, z⟩) (hF : T e = some L) (hv : a.eval x = .slice (some ⟨b', o', none⟩) n cap) (hi : rd E ix = .cv (.one (.imm (.val (.int k i))))) (hni : need E ix) (h0 : 0 ≤ i) (h1 : i < n)
    (hr : ARel w O μ r (.pointer (some ⟨b', o' + i.toNat * L.size, none⟩))) : Yield P w O μ a o (.cv (.one r)) := by
  have hiv := rd_val hE hi hni
  refine ⟨_, ?_, hr⟩
  have hu := under_sl (hT t _ hL)
  have hsz := run_sizeOf (hT e L hF) w
  simp [execOp, ho, hv, hiv, Instr.indexAt, asIntOf, run_underlying hu, h0, h1, hsz, Addr.add_lit]

theorem yield_indexAddr_arr {O : Nat → Prop} {o : Oper} {t e : TypeId} {x ix : Operand} {n s b : Nat} {z : List Value} {L : Lay} {k : IntKind} {i : Int} {b' o' : Nat} {r : AV} (hT : LayOk P T) (hE : ERel w O μ E a)
    (ho : o.op = .indexAddr t x ix) (hL : T t = some ⟨.arr n e, s, b, z⟩) (hF : T e = some L) (hv : a.eval x = .pointer (some ⟨b', o', none⟩)) (hi : rd E ix = .cv (.one (.imm (.val (.int k i))))) (hni : need E ix) (h0 : 0 ≤ i) (h1 : i < n)
    (hr : ARel w O μ r (.pointer (some ⟨b', o' + i.toNat * L.size, none⟩))) : Yield P w O μ a o (.cv (.one r)) := by
  have hiv := rd_val hE hi hni
  refine ⟨_, ?_, hr⟩
  have hu := under_arr (hT t _ hL)
  have hsz := run_sizeOf (hT e L hF) w
  simp [execOp, ho, hv, hiv, Instr.indexAt, asIntOf, run_underlying hu, Instr.sureAddr, h0, h1, hsz, Addr.add_lit]

theorem kindEq_eq {k k' : IntKind} (h : kindEq k k' = true) : k = k' := by cases k <;> cases k' <;> first | rfl | (simp [kindEq] at h)

theorem arith_run {op : BinOp} {k : IntKind} {x y : Int} {v : Value} {p : Prop} (h : arith op k x y = some (v, p)) (hp : p) (t : TypeId) (u z : Operand) :
    ((eqGuard op t u z (.int k x) (.int k y)).run P w = .ok () w) ∧ (binOp op t (.int k x) (.int k y)).run P w = .ok v w ∧ One v := by
  refine ⟨by simp [eqGuard_at_int], ?_, ?_⟩
  · cases op <;> simp [arith] at h <;> obtain ⟨rfl, hq⟩ := h <;> simp [binOp_add, binOp_sub, binOp_mul, binOp_quo, binOp_rem, binOp_eql, binOp_neq, binOp_lss, binOp_leq, binOp_gtr, binOp_geq, binOp_and, binOp_or, binOp_andNot, binOp_shl, binOp_shr, Op.intArith, Op.intDiv, Op.intBits, Op.shift]
    all_goals first | (have hy : ¬ y = 0 := hq.2 hp; simp [hy]; done) | (have hy : ¬ y < 0 := Int.not_lt.2 (hq.2 hp); simp [hy]; done)
  · cases op <;> simp [arith] at h <;> obtain ⟨rfl, _⟩ := h <;> rfl

theorem yield_binOp {O : Nat → Prop} {o : Oper} {op : BinOp} {t t' : TypeId} {x y : Operand} {v : Value} {p : Prop} (hT : LayOk P T) (hE : ERel w O μ E a) (ho : o.op = .binOp op t x y t')
    (h : binV (isBool (T t)) op (rd E x) (rd E y) = some (v, p)) (hx : need E x) (hy : need E y) (hp : p) : Yield P w O μ a o (.cv (ione v)) := by
  unfold binV at h
  split at h
  · rename_i k m k' n h1 h2
    cases hk : kindEq k k' with
    | false => rw [hk] at h; simp at h
    | true =>
      rw [hk] at h
      simp only [cond_true] at h
      have hkk := kindEq_eq hk
      subst hkk
      have e1 := rd_val hE h1 hx
      have e2 := rd_val hE h2 hy
      obtain ⟨hg, hr, ho1⟩ := arith_run (P := P) (w := w) h hp t x y
      refine ⟨v, ?_, ⟨rfl, ho1⟩⟩
      simp only [execOp, ho, e1, e2, Sem.run_bind, hg, hr, Result.andThen_ok, Sem.run_pure]
  · rename_i m n h1 h2
    have e1 := rd_val hE h1 hx
    have e2 := rd_val hE h2 hy
    have hB : isBool (T t) = true := by
      cases hb : isBool (T t) with
      | true => rfl
      | false => rw [hb] at h; cases op <;> simp at h
    have hu : P.underlying t = some .bool := by
      unfold isBool at hB
      split at hB
      · rename_i heq
        obtain ⟨i, d, _, _, _, _, hd, hk⟩ := lay_info (hT t _ heq)
        cases d <;> simp [kindOf] at hk
        exact hd
      · cases hB
    have hb : (Op.equal t (.bool m) (.bool n)).run P w = .ok (m == n) w := by
      show (Op.equalIn (9999 + 1) t (.bool m) (.bool n)).run P w = _
      rw [Op.equalIn]
      simp [run_underlying hu]
    rw [hB] at h
    split at h <;> simp at h
    · obtain ⟨rfl, _⟩ := h
      refine ⟨.bool (m == n), ?_, ⟨rfl, rfl⟩⟩
      simp [execOp, ho, e1, e2, eqGuard_at_bool, binOp, hb]
    · obtain ⟨rfl, _⟩ := h
      refine ⟨.bool (!(m == n)), ?_, ⟨rfl, rfl⟩⟩
      simp [execOp, ho, e1, e2, eqGuard_at_bool, binOp, hb]
  · rename_i m n h1 h2
    have e1 := rd_val hE h1 hx
    have e2 := rd_val hE h2 hy
    split at h <;> simp at h
    · obtain ⟨rfl, hq⟩ := h
      refine ⟨.string (m ++ n), ?_, ⟨rfl, rfl⟩⟩
      simp only [execOp, ho, e1, e2, eqGuard_at_string, binOp, Sem.run_bind, Sem.run_pure, Result.andThen_ok]
      rw [run_string_add_sum _ m n (hq.2 hp)]
      rfl
    · obtain ⟨rfl, _⟩ := h
      refine ⟨.bool (sEq m n), ?_, ⟨rfl, rfl⟩⟩
      simp [execOp, ho, e1, e2, eqGuard_at_string, binOp, Op.stringOp, sEq]
    · obtain ⟨rfl, _⟩ := h
      refine ⟨.bool (!sEq m n), ?_, ⟨rfl, rfl⟩⟩
      simp [execOp, ho, e1, e2, eqGuard_at_string, binOp, Op.stringOp, sEq]
  · cases h

theorem yield_convert {O : Nat → Prop} {o : Oper} {s d : TypeId} {x : Operand} {k k' : IntKind} {n : Int} {L : Lay} {sz by_ : Nat} {z : List Value} (hT : LayOk P T) (hE : ERel w O μ E a) (ho : o.op = .convert s d x)
    (hs : T s = some L) (hd : T d = some ⟨.int k, sz, by_, z⟩) (hx : rd E x = .cv (.one (.imm (.val (.int k' n))))) (hn : need E x) : Yield P w O μ a o (.cv (ione (.int k (k.wrap n)))) := by
  have e := rd_val hE hx hn
  refine ⟨_, ?_, ⟨rfl, rfl⟩⟩
  obtain ⟨_, ds, _, _, _, _, hds, _⟩ := lay_info (hT s L hs)
  have hdd := under_int (hT d _ hd)
  simp [execOp, ho, e, Go.convert, run_underlying hds, run_underlying hdd, Conv.intToInt]

theorem yield_extract {O : Nat → Prop} {o : Oper} {x : Operand} {i : Nat} {l : List CV} {c : CV} (hE : ERel w O μ E a) (ho : o.op = .extract x i) (hx : rd E x = .tup l) (hc : l[i]? = some c) (hn : need E x) : Yield P w O μ a o (.cv c) := by
  obtain ⟨vs, hv, hlen, hr⟩ := rd_tup hE hx hn
  have hi : i < vs.length := by
    rw [hlen]
    rcases Nat.lt_or_ge i l.length with h | h
    · exact h
    · rw [List.getElem?_eq_none h] at hc; cases hc
  refine ⟨vs[i], ?_, hr i c _ hc (List.getElem?_eq_getElem hi)⟩
  simp [execOp, ho, hv, Instr.extract, hi]
end
end Go.Proofs.YtmpddomgiplnmaaDoor.Abs

/-
  WHAT THE EVALUATOR ANSWERS FOR AN OPERATION THAT CHANGES NO MEMORY IS WHAT THE MODEL YIELDS (3): aggregates, functions, slices; all of them in one theorem.
-/
namespace Go.Proofs.YtmpddomgiplnmaaDoor.Abs
open Go

section
variable {P : Program} {T : Lays} {F : Nat → Prop} {w : World} {μ : Nat → Option Nat} {H : Nat → Option ABlk} {nx : Nat} {E : Nat → SV} {a : Act}

theorem yield_unOp {O : Nat → Prop} {o : Oper} {op : UnOp} {t : TypeId} {x : Operand} {u v : Value} (hE : ERel w O μ E a) (ho : o.op = .unOp op t x)
    (hx : rd E x = .cv (.one (.imm (.val u)))) (hn : need E x) (h : (Op.unary op u).run P w = .ok v w) (h1 : One v) : Yield P w O μ a o (.cv (ione v)) := by
  have e := rd_val hE hx hn
  exact ⟨v, by simp [execOp, ho, e, h], ⟨rfl, h1⟩⟩

theorem yield_nilCheck {O : Nat → Prop} {o : Oper} {x : Operand} {p : AV} (hE : ERel w O μ E a) (ho : o.op = .nilCheck x) (hx : rd E x = .cv (.one p)) (hn : need E x)
    (hp : (∃ b e i j, p = .own b e i j) ∨ (∃ n c, p = .vptr n c) ∨ ∃ f nf fi nc ca, p = .fn (.func f) nf fi nc ca) : Yield P w O μ a o (.cv (.one p)) := by
  have h := rd_one hE hx hn
  refine ⟨a.eval x, ?_, h⟩
  rcases hp with ⟨b, e, i, j, rfl⟩ | ⟨n, c, rfl⟩ | ⟨f, nf, fi, nc, ca, rfl⟩
  · obtain ⟨m, _, hv⟩ := h; simp [execOp, ho, hv]
  · obtain ⟨b, o', hv, _⟩ := h; simp [execOp, ho, hv]
  · obtain ⟨fs, cs, hv, _⟩ := h; simp [execOp, ho, hv]

theorem setAt_length (cells : List AV) (off : Nat) (l : List AV) (h : off + l.length ≤ cells.length) : (setAt cells off l).length = cells.length := by
  simp [setAt]; omega

theorem foldl_set (vs : List Value) : ∀ (k off : Nat) (cs : Array Value), off + k + vs.length ≤ cs.size →
    ((vs.zipIdx k).foldl (fun cs (c, j) => cs.setIfInBounds (off + j) c) cs).toList = cs.toList.take (off + k) ++ vs ++ cs.toList.drop (off + k + vs.length) := by
  induction vs with
  | nil => intro k off cs h; simp
  | cons v vs ih =>
    intro k off cs h
    simp only [List.length_cons] at h
    rw [List.zipIdx_cons, List.foldl_cons, ih (k + 1) off _ (by simp; omega)]
    simp only [Array.toList_setIfInBounds, List.length_cons]
    have h0 : off + k < cs.toList.length := by simp; omega
    have t1 : (cs.toList.set (off + k) v).take (off + (k + 1)) = cs.toList.take (off + k) ++ [v] := by
      rw [show off + (k + 1) = (off + k) + 1 from by omega, List.take_succ_eq_append_getElem (by simpa using h0)]
      simp [List.take_set_of_le]
    have t2 : (cs.toList.set (off + k) v).drop (off + (k + 1) + vs.length) = cs.toList.drop (off + k + (vs.length + 1)) := by
      rw [List.drop_set, if_pos (by omega)]
      congr 1
      omega
    rw [t1, t2]
    simp

theorem fill_one {place : Nat → Option (Nat × Nat)} {cells : Array Value} {i off size : Nat} {v : Value} {rest : List (Nat × Value)} (hp : place i = some (off, size)) (hs : v.cells.size = size) (hb : off + size ≤ cells.size) :
    Instr.fill place cells ((i, v) :: rest) = Instr.fill place (cells.toList.take off ++ v.cells.toList ++ cells.toList.drop (off + size)).toArray rest := by
  subst hs
  simp only [Instr.fill, hp]
  rw [if_neg (by simp; omega)]
  congr 1
  apply Array.toList_inj.1
  rw [← Array.foldl_toList]
  have := foldl_set v.cells.toList 0 off cells (by simpa using hb)
  simpa using this

theorem setAt_rel {O : Nat → Prop} {cells l : List AV} {cs vs : List Value} {off : Nat} (h : LRel w O μ cells cs) (hl : LRel w O μ l vs) : LRel w O μ (setAt cells off l) (cs.take off ++ vs ++ cs.drop (off + vs.length)) := by
  have := ((h.take off).append hl).append (h.drop (off + l.length))
  rw [hl.1]
  exact this

theorem cellsOf_sound {O : Nat → Prop} {x : Operand} {l : List AV} (hE : ERel w O μ E a) (h : cellsOf E x = some l) (hn : need E x) : LRel w O μ l (a.eval x).cells.toList := by
  unfold cellsOf at h
  split at h
  · rename_i c hc
    cases h
    exact (rd_cv hE hc hn).cells
  · cases h

theorem fillS_sound {O : Nat → Prop} (_hT : LayOk P T) (hE : ERel w O μ E a) {fs : List (Nat × TypeId)} {place : Nat → Option (Nat × Nat)}
    (hplace : ∀ i off ft L, fs[i]? = some (off, ft) → T ft = some L → place i = some (off, L.size)) : ∀ (parts : List (Nat × Operand)) (cells : List AV) (cs : List Value) (l : List AV) (p : Prop),
    LRel w O μ cells cs → fillS T E fs cells parts = some (l, p) → p → ∃ r : List Value, Instr.fill place cs.toArray (parts.map fun (i, x) => (i, a.eval x)) = some r.toArray ∧ LRel w O μ l r := by
  intro parts
  induction parts with
  | nil => intro cells cs l p h hf hp; simp [fillS] at hf; obtain ⟨rfl, _⟩ := hf; exact ⟨cs, rfl, h⟩
  | cons part rest ih =>
    obtain ⟨i, x⟩ := part
    intro cells cs l p h hf hp
    simp only [fillS] at hf
    split at hf
    · rename_i off ft l' hfi hcx
      split at hf
      · rename_i L hL
        cases hc : (lenIs l' L.size && Nat.ble (off + L.size) cells.length) with
        | false => rw [hc] at hf; simp at hf
        | true =>
          rw [hc] at hf
          simp only [cond_true] at hf
          split at hf
          · rename_i c q hrest
            simp only [Option.some.injEq, Prod.mk.injEq] at hf
            obtain ⟨rfl, rfl⟩ := hf
            simp only [Bool.and_eq_true] at hc
            have hlen := lenIs_eq _ _ hc.1
            have hble := Nat.le_of_ble_eq_true hc.2
            have hrel := cellsOf_sound hE hcx hp.1
            have hvs : (a.eval x).cells.size = L.size := by rw [← Array.length_toList, hrel.1, hlen]
            have hr2 := setAt_rel (off := off) h hrel
            obtain ⟨r, hr, hlr⟩ := ih (setAt cells off l') _ c q hr2 hrest hp.2
            refine ⟨r, ?_, hlr⟩
            rw [← hr, List.map_cons]
            rw [fill_one (hplace i off ft L hfi hL) hvs (by rw [List.size_toArray, h.1]; exact hble)]
            rw [Array.length_toList, hvs]
          · cases hf
      · cases hf
    · cases hf

theorem fillA_sound {O : Nat → Prop} (hE : ERel w O μ E a) {size : Nat} : ∀ (parts : List (Nat × Operand)) (cells : List AV) (cs : List Value) (l : List AV) (p : Prop),
    LRel w O μ cells cs → fillA E size cells parts = some (l, p) → p → ∃ r : List Value, Instr.fill (fun i => some (i * size, size)) cs.toArray (parts.map fun (i, x) => (i, a.eval x)) = some r.toArray ∧ LRel w O μ l r := by
  intro parts
  induction parts with
  | nil => intro cells cs l p h hf hp; simp [fillA] at hf; obtain ⟨rfl, _⟩ := hf; exact ⟨cs, rfl, h⟩
  | cons part rest ih =>
    obtain ⟨i, x⟩ := part
    intro cells cs l p h hf hp
    simp only [fillA] at hf
    split at hf
    · rename_i l' hcx
      cases hc : (lenIs l' size && Nat.ble (i * size + size) cells.length) with
      | false => rw [hc] at hf; simp at hf
      | true =>
        rw [hc] at hf
        simp only [cond_true] at hf
        split at hf
        · rename_i c q hrest
          simp only [Option.some.injEq, Prod.mk.injEq] at hf
          obtain ⟨rfl, rfl⟩ := hf
          simp only [Bool.and_eq_true] at hc
          have hlen := lenIs_eq _ _ hc.1
          have hble := Nat.le_of_ble_eq_true hc.2
          have hrel := cellsOf_sound hE hcx hp.1
          have hvs : (a.eval x).cells.size = size := by rw [← Array.length_toList, hrel.1, hlen]
          have hr2 := setAt_rel (off := i * size) h hrel
          obtain ⟨r, hr, hlr⟩ := ih (setAt cells (i * size) l') _ c q hr2 hrest hp.2
          refine ⟨r, ?_, hlr⟩
          rw [← hr, List.map_cons]
          rw [fill_one (size := size) (off := i * size) rfl hvs (by rw [List.size_toArray, h.1]; exact hble)]
          rw [Array.length_toList, hvs]
        · cases hf
    · cases hf

theorem zeros_rel {O : Nat → Prop} {t : TypeId} {L : Lay} (_hT : LayOk1 P t L) (h1 : L.zero.all (·.oneCell') = true) : LRel w O μ (zeros L) L.zero := by
  rw [List.all_eq_true] at h1
  exact LRel.vals h1

theorem run_zeroValue {t : TypeId} {L : Lay} (hT : LayOk1 P t L) (w : World) : ∃ z, (zeroValue t).run P w = .ok z w ∧ z.cells = L.zero.toArray := by
  obtain ⟨i, d, hi, _, _, ⟨z, hz, hc⟩, _, _⟩ := lay_info hT
  refine ⟨z, by simp [zeroValue, typeInfo, hi, hz], ?_⟩
  apply Array.toList_inj.1
  simp [hc]

theorem mapM_places {fields : List Field} {places : List (Nat × Nat)} (hlen : places.length = fields.length) (h : ∀ (i : Nat) f, fields[i]? = some f → ∃ s, (sizeOf f.type).run P w = .ok s w ∧ places[i]? = some (f.offset, s)) :
    (fields.mapM fun f => (do pure (f.offset, ← sizeOf f.type) : Sem (Nat × Nat))).run P w = .ok places w := by
  induction fields generalizing places with
  | nil => cases places with
    | nil => rfl
    | cons p l => simp at hlen
  | cons f fs ih =>
    cases places with
    | nil => simp at hlen
    | cons p l =>
      obtain ⟨s, hs, hp⟩ := h 0 f rfl
      simp only [List.getElem?_cons_zero, Option.some.injEq] at hp
      subst hp
      have hr := ih (places := l) (by simpa using hlen) fun i g hg => h (i + 1) g hg
      rw [List.mapM_cons]
      simp only [Sem.run_bind, hs, Result.andThen_ok, Sem.run_pure, hr]

/-- The table's zero values are values of one cell each. -/
def ZeroOk (T : Lays) : Prop := ∀ t x, T t = some x → x.zero.all (·.oneCell') = true

theorem yield_build_st {O : Nat → Prop} {o : Oper} {t : TypeId} {parts : Array (Nat × Operand)} {fs : List (Nat × TypeId)} {s b : Nat} {z : List Value} {l : List AV} {p : Prop} (hT : LayOk P T) (hZ : ZeroOk T) (hE : ERel w O μ E a)
    (ho : o.op = .build t parts) (hL : T t = some ⟨.st fs, s, b, z⟩) (hall : ∀ (i off : Nat) ft, fs[i]? = some (off, ft) → (T ft).isSome = true)
    (hf : fillS T E fs (zeros ⟨.st fs, s, b, z⟩) parts.toList = some (l, p)) (hp : p) : Yield P w O μ a o (.cv (.agg l)) := by
  obtain ⟨fields, hu, hfs⟩ := under_st (hT t _ hL)
  obtain ⟨zv, hzr, hzc⟩ := run_zeroValue (hT t _ hL) w
  subst hfs
  have hsize : ∀ (i : Nat) f, fields.toList[i]? = some f → ∃ L, T f.type = some L ∧ (sizeOf f.type).run P w = .ok L.size w := by
    intro i f hf'
    have := hall i f.offset f.type (by rw [List.getElem?_map, hf']; rfl)
    obtain ⟨L, hL'⟩ := Option.isSome_iff_exists.1 this
    exact ⟨L, hL', run_sizeOf (hT _ L hL') w⟩
  obtain ⟨places, hpl⟩ : ∃ places : List (Nat × Nat), places.length = fields.toList.length ∧ ∀ (i : Nat) f, fields.toList[i]? = some f → ∃ L, T f.type = some L ∧ places[i]? = some (f.offset, L.size) := by
    refine ⟨fields.toList.map fun f => (f.offset, ((T f.type).map (·.size)).getD 0), by simp, fun i f hf' => ?_⟩
    obtain ⟨L, hL', _⟩ := hsize i f hf'
    exact ⟨L, hL', by rw [List.getElem?_map, hf']; simp [hL']⟩
  have hplaces := mapM_places (P := P) (w := w) hpl.1 fun i f hf' => by
    obtain ⟨L, hL', hr⟩ := hsize i f hf'
    obtain ⟨L2, hL2, h2⟩ := hpl.2 i f hf'
    rw [hL'] at hL2; cases hL2
    exact ⟨L.size, hr, h2⟩
  obtain ⟨r, hr, hl⟩ := fillS_sound (place := fun i => places.toArray[i]?) hT hE (fun i off ft L hfi hTL => by
    rw [List.getElem?_map, Option.map_eq_some_iff] at hfi
    obtain ⟨f, hf', he⟩ := hfi
    simp only [Prod.mk.injEq] at he
    obtain ⟨rfl, rfl⟩ := he
    obtain ⟨L2, hL2, h2⟩ := hpl.2 i f hf'
    rw [hTL] at hL2; cases hL2
    simpa using h2) parts.toList _ _ l p (zeros_rel (hT t _ hL) (hZ t _ hL)) hf hp
  refine ⟨.agg r.toArray, ?_, ⟨r, rfl, hl⟩⟩
  have hmap : (fields.mapM fun f => (do pure (f.offset, ← sizeOf f.type) : Sem (Nat × Nat))).run P w = .ok places.toArray w := by
    rw [Array.mapM_eq_mapM_toList]
    simp only [Sem.run_map, hplaces, Result.andThen_ok]
  simp only [execOp, ho, Instr.build, Sem.run_bind, hzr, Result.andThen_ok, run_underlying hu, hmap, hzc, Sem.run_pure]
  have hr' : Instr.fill (fun i => places.toArray[i]?) z.toArray (parts.map fun (i, x) => (i, a.eval x)).toList = some r.toArray := by
    rw [Array.toList_map]; exact hr
  simp only [hr', Sem.run_pure, Result.andThen_ok]

theorem yield_build_arr {O : Nat → Prop} {o : Oper} {t e : TypeId} {n : Nat} {parts : Array (Nat × Operand)} {s b : Nat} {z : List Value} {L : Lay} {l : List AV} {p : Prop} (hT : LayOk P T) (hZ : ZeroOk T) (hE : ERel w O μ E a)
    (ho : o.op = .build t parts) (hL : T t = some ⟨.arr n e, s, b, z⟩) (hF : T e = some L)
    (hf : fillA E L.size (zeros ⟨.arr n e, s, b, z⟩) parts.toList = some (l, p)) (hp : p) : Yield P w O μ a o (.cv (.agg l)) := by
  have hu := under_arr (hT t _ hL)
  obtain ⟨zv, hzr, hzc⟩ := run_zeroValue (hT t _ hL) w
  obtain ⟨r, hr, hl⟩ := fillA_sound hE parts.toList _ _ l p (zeros_rel (hT t _ hL) (hZ t _ hL)) hf hp
  refine ⟨.agg r.toArray, ?_, ⟨r, rfl, hl⟩⟩
  have hsz := run_sizeOf (hT e L hF) w
  simp only [execOp, ho, Instr.build, Sem.run_bind, hzr, Result.andThen_ok, run_underlying hu, hsz, hzc, Sem.run_pure]
  have hr' : Instr.fill (fun i => some (i * L.size, L.size)) z.toArray (parts.map fun (i, x) => (i, a.eval x)).toList = some r.toArray := by
    rw [Array.toList_map]; exact hr
  simp only [hr', Sem.run_pure, Result.andThen_ok]

theorem listAV_sound {O : Nat → Prop} (hE : ERel w O μ E a) : ∀ (xs : List Operand) (l : List AV) (p : Prop), listAV E xs = some (l, p) → p → LRel w O μ l (xs.map a.eval) := by
  intro xs
  induction xs with
  | nil => intro l p h hp; simp [listAV] at h; obtain ⟨rfl, _⟩ := h; exact LRel.nil
  | cons x xs ih =>
    intro l p h hp
    simp only [listAV] at h
    split at h
    · rename_i y ys q hx hys
      simp only [Option.some.injEq, Prod.mk.injEq] at h
      obtain ⟨rfl, rfl⟩ := h
      exact LRel.cons (rd_one hE hx hp.1) (ih ys q hys hp.2)
    · cases h

theorem listCV_sound {O : Nat → Prop} (hE : ERel w O μ E a) : ∀ (xs : List Operand) (l : List CV) (p : Prop), listCV E xs = some (l, p) → p → TRel w O μ l (xs.map a.eval) := by
  intro xs
  induction xs with
  | nil => intro l p h hp; simp [listCV] at h; obtain ⟨rfl, _⟩ := h; exact ⟨rfl, fun i x u h => by simp at h⟩
  | cons x xs ih =>
    intro l p h hp
    simp only [listCV] at h
    split at h
    · rename_i y ys q hx hys
      simp only [Option.some.injEq, Prod.mk.injEq] at h
      obtain ⟨rfl, rfl⟩ := h
      have h1 := rd_cv hE hx hp.1
      have h2 := ih ys q hys hp.2
      refine ⟨by simp [h2.1], fun i z u hz hu => ?_⟩
      cases i with
      | zero => simp at hz hu; subst hz; subst hu; exact h1
      | succ i => simp at hz hu; exact h2.2 i z u hz (by simpa using hu)
    · cases h

theorem yield_makeFunc {O : Nat → Prop} {o : Oper} {f : Fn} {first caps : Array Operand} {l m : List AV} {p q : Prop} (hE : ERel w O μ E a) (ho : o.op = .makeFunc f first caps)
    (h1 : listAV E first.toList = some (l, p)) (h2 : listAV E caps.toList = some (m, q)) (hp : p) (hq : q) :
    Yield P w O μ a o (.cv (.one (.fn f l.length (fun i => l.getD i avDef) m.length fun i => m.getD i avDef))) := by
  have r1 := listAV_sound hE _ _ _ h1 hp
  have r2 := listAV_sound hE _ _ _ h2 hq
  refine ⟨.func f (first.map a.eval) (caps.map a.eval), by simp [execOp, ho, Instr.makeFunc], ?_⟩
  refine ⟨first.toList.map a.eval, caps.toList.map a.eval, ?_, r1.1, r2.1, fun i u hu => ?_, fun i u hu => ?_⟩
  · congr 1 <;> (apply Array.toList_inj.1; simp)
  · have hi : i < l.length := by
      rw [← r1.1]
      rcases Nat.lt_or_ge i (first.toList.map a.eval).length with h | h
      · exact h
      · rw [List.getElem?_eq_none h] at hu; cases hu
    have := r1.2 i l[i] u (List.getElem?_eq_getElem hi) hu
    simpa [List.getD_eq_getElem?_getD, List.getElem?_eq_getElem hi] using this
  · have hi : i < m.length := by
      rw [← r2.1]
      rcases Nat.lt_or_ge i (caps.toList.map a.eval).length with h | h
      · exact h
      · rw [List.getElem?_eq_none h] at hu; cases hu
    have := r2.2 i m[i] u (List.getElem?_eq_getElem hi) hu
    simpa [List.getD_eq_getElem?_getD, List.getElem?_eq_getElem hi] using this
end
end Go.Proofs.YtmpddomgiplnmaaDoor.Abs

/-
  MAPS WHOSE KEYS ARE INTEGERS OR STRUCTS OF INTEGERS: what the model's search, look-up and update come to; structs of integers that are compared. No program in sight.
-/
namespace Go.Proofs.YtmpddomgiplnmaaDoor.Abs
open Go

theorem eqI_iff : ∀ (l m : List Int), eqI l m = true ↔ l = m
  | [], [] => by simp [eqI]
  | [], y :: m => by simp [eqI]
  | x :: l, [] => by simp [eqI]
  | x :: l, y :: m => by simp [eqI, eqI_iff l m]

structure EqOk (P : Program) (t : TypeId) : Prop where
  stood : P.stoodInHeld t = false
  guard : P.eqGuardType P.depth t = false
  names : ∀ f ∈ (P.fieldsOf t).toList, f.name ≠ "_"

def KF (P : Program) (k : TypeId) (ka : Bool) (kks : List IntKind) : Prop :=
  (ka = false ∧ ∃ q, kks = [q] ∧ P.underlying k = some (.int q)) ∨
  (ka = true ∧ P.underlying k = some (.struct (P.fieldsOf k)) ∧ EqOk P k ∧ (P.fieldsOf k).toList.length = kks.length ∧
    ∀ (i : Nat) f, (P.fieldsOf k).toList[i]? = some f → f.offset = i ∧ ∃ q, kks[i]? = some q ∧ P.underlying f.type = some (.int q))

section
variable {P : Program} {T : Lays} {w : World} {k : TypeId} {ka : Bool} {kks : List IntKind}

theorem intKinds_sound (hT : LayOk P T) : ∀ (fs : List (Nat × TypeId)) (i : Nat) (l : List IntKind), intKinds T i fs = some l → fs.length = l.length ∧ ∀ (j : Nat) p, fs[j]? = some p → p.1 = i + j ∧ ∃ q, l[j]? = some q ∧ P.underlying p.2 = some (.int q)
  | [], i, l, h => by
    simp only [intKinds, Option.some.injEq] at h
    subst h
    exact ⟨rfl, fun j p hp => by simp at hp⟩
  | (off, ft) :: rest, i, l, h => by
    simp only [intKinds] at h
    split at h
    · rename_i q s b z hL
      cases hb : Nat.beq off i with
      | false => rw [hb] at h; simp at h
      | true =>
        rw [hb] at h
        simp only [cond_true] at h
        split at h
        · rename_i l' hl'
          simp only [Option.some.injEq] at h
          subst h
          obtain ⟨h1, h2⟩ := intKinds_sound hT rest (i + 1) l' hl'
          refine ⟨by simp [h1], fun j p hp => ?_⟩
          cases j with
          | zero =>
            simp at hp
            subst hp
            exact ⟨Nat.eq_of_beq_eq_true hb, q, rfl, under_int (hT ft _ hL)⟩
          | succ j =>
            simp at hp
            obtain ⟨h3, q', h4, h5⟩ := h2 j p hp
            exact ⟨by omega, q', by simpa using h4, h5⟩
        · cases h
    · cases h

theorem keyForm_sound (hT : LayOk P T) (hQ : ∀ t fs s b z, T t = some ⟨.st fs, s, b, z⟩ → EqOk P t) (h : keyForm T k = some (ka, kks)) : KF P k ka kks := by
  unfold keyForm at h
  split at h
  · rename_i q s b z hL
    simp only [Option.some.injEq, Prod.mk.injEq] at h
    obtain ⟨rfl, rfl⟩ := h
    exact .inl ⟨rfl, q, rfl, under_int (hT k _ hL)⟩
  · rename_i fs s b z hL
    split at h
    · rename_i l hl
      simp only [Option.some.injEq, Prod.mk.injEq] at h
      obtain ⟨rfl, rfl⟩ := h
      obtain ⟨fields, hu, hfs⟩ := under_st (hT k _ hL)
      have hfo : P.fieldsOf k = fields := by simp [Program.fieldsOf, hu]
      obtain ⟨h1, h2⟩ := intKinds_sound hT fs 0 l hl
      refine .inr ⟨rfl, by rw [hfo]; exact hu, hQ k _ _ _ _ hL, ?_, fun i f hf => ?_⟩
      · rw [hfo, ← h1, ← hfs]; simp
      · rw [hfo] at hf
        obtain ⟨h3, h4⟩ := h2 i (f.offset, f.type) (by rw [← hfs]; simp [hf])
        exact ⟨by simpa using h3, h4⟩
    · cases h
  · cases h

theorem run_part_int {t : TypeId} {q : IntKind} {xs : Array Value} {off : Nat} {v : Value} (h : P.underlying t = some (.int q)) (hx : xs[off]? = some v) : (part t xs off).run P w = .ok v w := by
  simp [part, Go.isAgg, run_underlying h, hx]

theorem eqFields_ints (d : Nat) (X Y : Array Value) : ∀ (fs : List Field) (xs ys : List Int), xs.length = fs.length → ys.length = fs.length →
    (∀ (j : Nat) f x y, fs[j]? = some f → xs[j]? = some x → ys[j]? = some y → f.name ≠ "_" ∧ ∃ q, P.underlying f.type = some (.int q) ∧ X[f.offset]? = some (.int q x) ∧ Y[f.offset]? = some (.int q y)) →
    (Op.eqFields (d + 1) X Y fs).run P w = .ok (eqI xs ys) w
  | [], [], [], _, _, _ => by simp [Op.eqFields, eqI]
  | [], _ :: _, _, h, _, _ => by simp at h
  | [], [], _ :: _, _, h, _ => by simp at h
  | _ :: _, [], _, h, _, _ => by simp at h
  | _ :: _, _ :: _, [], _, h, _ => by simp at h
  | f :: fs, x :: xs, y :: ys, h1, h2, h3 => by
    obtain ⟨hn, q, hq, hX, hY⟩ := h3 0 f x y rfl rfl rfl
    have ih := eqFields_ints d X Y fs xs ys (by simpa using h1) (by simpa using h2) fun j f x y a b c => h3 (j + 1) f x y a b c
    simp only [Op.eqFields, hn, ne_eq, not_false_eq_true, if_true, Sem.run_bind, run_part_int hq hX, run_part_int hq hY, Result.andThen_ok, run_equalIn_int w d f.type q q x y hq, Sem.run_ite, eqI]
    cases hxy : (x == y)
    · simp
    · simpa using ih

theorem keyCells_get {ks : List Int} {i : Nat} {q : IntKind} {x : Int} (h1 : kks[i]? = some q) (h2 : ks[i]? = some x) : (keyCells kks ks)[i]? = some (.int q x) := by
  simp [keyCells, List.getElem?_zipWith, h1, h2]

theorem run_equal_keys (hk : KF P k ka kks) {ks ms : List Int} (h1 : ks.length = kks.length) (h2 : ms.length = kks.length) : (Op.equal k (keyV ka kks ks) (keyV ka kks ms)).run P w = .ok (eqI ks ms) w := by
  rcases hk with ⟨rfl, q, rfl, hq⟩ | ⟨rfl, hu, ok, hlen, hf⟩
  · match ks, ms, h1, h2 with
    | [x], [y], _, _ =>
      show (Op.equalIn (9999 + 1) k (.int q x) (.int q y)).run P w = _
      rw [run_equalIn_int w 9999 k q q x y hq]
      simp [eqI]
  · show (Op.equalIn (9999 + 1) k (.agg (keyCells kks ks).toArray) (.agg (keyCells kks ms).toArray)).run P w = _
    rw [run_equalIn_struct w 9999 k _ _ hu ok.stood]
    refine eqFields_ints 9998 _ _ _ ks ms (by omega) (by omega) fun j f x y ha hb hc => ?_
    obtain ⟨ho, q, hq, hu'⟩ := hf j f ha
    refine ⟨ok.names f (List.mem_of_getElem? ha), q, hu', ?_, ?_⟩
    · rw [ho]; simpa using keyCells_get hq hb
    · rw [ho]; simpa using keyCells_get hq hc

theorem keyV_inj (hk : KF P k ka kks) {ks ms : List Int} (h1 : ks.length = kks.length) (h2 : ms.length = kks.length) : keyV ka kks ks = keyV ka kks ms ↔ ks = ms := by
  refine ⟨fun h => ?_, fun h => by rw [h]⟩
  have hc : keyCells kks ks = keyCells kks ms := by
    rcases hk with ⟨rfl, q, rfl, hq⟩ | ⟨rfl, _⟩
    · match ks, ms, h1, h2 with
      | [x], [y], _, _ =>
        simp only [keyV, aggV, keyCells, cond_false, List.zipWith, List.headD_cons] at h ⊢
        rw [h]
    · simpa [keyV, aggV] using h
  refine List.ext_getElem? fun i => ?_
  rcases Nat.lt_or_ge i kks.length with hi | hi
  · have a := keyCells_get (kks := kks) (ks := ks) (i := i) (List.getElem?_eq_getElem hi) (List.getElem?_eq_getElem (by omega))
    have b := keyCells_get (kks := kks) (ks := ms) (i := i) (List.getElem?_eq_getElem hi) (List.getElem?_eq_getElem (by omega))
    rw [hc, b] at a
    simp only [Option.some.injEq, Value.int.injEq, true_and] at a
    rw [List.getElem?_eq_getElem (by omega), List.getElem?_eq_getElem (by omega), a]
  · rw [List.getElem?_eq_none (by omega), List.getElem?_eq_none (by omega)]

theorem checkKey_int {t : TypeId} {q : IntKind} {x : Int} (hq : P.underlying t = some (.int q)) (e : Bool) (d : Nat) : (Instr.checkKey e (d + 1) t (.int q x)).run P w = .ok () w := by
  simp [Instr.checkKey, run_underlying hq]

theorem run_checkFields (e : Bool) (d : Nat) (X : Array Value) : ∀ (fs : List Field), (∀ f ∈ fs, ∃ q x, P.underlying f.type = some (.int q) ∧ X[f.offset]? = some (.int q x)) →
    (forIn fs PUnit.unit fun (f : Field) (_ : PUnit) => (if f.name ≠ "_" then (do Instr.checkKey e (d + 1) f.type (← part f.type X f.offset); pure (ForInStep.yield PUnit.unit)) else pure (ForInStep.yield PUnit.unit) : Sem (ForInStep PUnit))).run P w = .ok PUnit.unit w
  | [], _ => by simp
  | f :: fs, h => by
    obtain ⟨q, x, hq, hx⟩ := h f (by simp)
    have ih := run_checkFields e d X fs fun f hf => h f (by simp [hf])
    simp only [List.forIn_cons, Sem.run_bind, Sem.run_ite]
    split
    · simp only [run_part_int hq hx, Result.andThen_ok, checkKey_int hq, Sem.run_pure]
      exact ih
    · simp only [Sem.run_pure, Result.andThen_ok]
      exact ih

theorem checkKey_agg (hu : P.underlying k = some (.struct (P.fieldsOf k))) {X : Array Value} (h : ∀ f ∈ (P.fieldsOf k).toList, ∃ q x, P.underlying f.type = some (.int q) ∧ X[f.offset]? = some (.int q x)) (e : Bool) (d : Nat) : (Instr.checkKey e (d + 2) k (.agg X)).run P w = .ok () w := by
  have := run_checkFields (P := P) (w := w) e d X (P.fieldsOf k).toList h
  rw [Instr.checkKey]
  simp only [Sem.run_bind, run_underlying hu, Result.andThen_ok]
  rw [← Array.forIn_toList]
  simp at this ⊢
  simp [this]

theorem run_checkKey (hk : KF P k ka kks) {ks : List Int} (h1 : ks.length = kks.length) (e : Bool) (d : Nat) : (Instr.checkKey e (d + 2) k (keyV ka kks ks)).run P w = .ok () w := by
  rcases hk with ⟨rfl, q, rfl, hq⟩ | ⟨rfl, hu, ok, hlen, hf⟩
  · match ks, h1 with
    | [x], _ => exact checkKey_int hq e (d + 1)
  · refine checkKey_agg hu (X := (keyCells kks ks).toArray) (fun f hf' => ?_) e d
    obtain ⟨i, hi, rfl⟩ := List.mem_iff_getElem.1 hf'
    obtain ⟨ho, q, hq, hu'⟩ := hf i _ (List.getElem?_eq_getElem hi)
    refine ⟨q, ks[i]'(by omega), hu', ?_⟩
    rw [ho]
    simpa using keyCells_get hq (List.getElem?_eq_getElem (by omega))

/-- What a search comes to. -/
def Found (key : Value) (es : List MapEntry) (i0 : Nat) : Option (Nat × Value) → Prop
  | none => ∀ e ∈ es, e.key ≠ key
  | some (i, v) => i0 ≤ i ∧ ∃ e, es[i - i0]? = some e ∧ e.key = key ∧ e.val = v

theorem Found.here {key : Value} {e : MapEntry} {es : List MapEntry} {i : Nat} (h : e.key = key) : Found key (e :: es) i (some (i, e.val)) := ⟨Nat.le_refl _, e, by simp, h, rfl⟩
theorem Found.there {key : Value} {e : MapEntry} {es : List MapEntry} {i : Nat} (h : e.key ≠ key) : ∀ {r : Option (Nat × Value)}, Found key es (i + 1) r → Found key (e :: es) i r
  | none, hr => by
    intro x hx
    rcases List.mem_cons.1 hx with rfl | hx
    · exact h
    · exact hr x hx
  | some (j, v), hr => by
    obtain ⟨h1, x, h2, h3, h4⟩ := hr
    refine ⟨by omega, x, ?_, h3, h4⟩
    obtain ⟨m, rfl⟩ : ∃ m, j = i + 1 + m := ⟨j - (i + 1), by omega⟩
    rw [show i + 1 + m - (i + 1) = m from by omega] at h2
    rw [show i + 1 + m - i = m + 1 from by omega]
    simpa using h2

theorem findNow_int {q : IntKind} {x : Int} : ∀ (es : List MapEntry) (i : Nat), (∀ e ∈ es, ∃ y, e.key = .int q y) → ∃ r, Instr.findNow (.int q) (.int q x) es i = some r ∧ Found (.int q x) es i r
  | [], i, _ => ⟨none, rfl, fun e he => by simp at he⟩
  | e :: es, i, h => by
    obtain ⟨y, hy⟩ := h e (by simp)
    obtain ⟨r, h1, h2⟩ := findNow_int (q := q) (x := x) es (i + 1) fun e he => h e (by simp [he])
    by_cases hxy : x = y
    · subst hxy
      exact ⟨some (i, e.val), by simp [Instr.findNow, hy, Instr.sameNow], .here hy⟩
    · have hb : (x == y) = false := by simpa using hxy
      refine ⟨r, by simp [Instr.findNow, hy, Instr.sameNow, hb, h1], .there (by rw [hy]; simp [Ne.symm hxy]) h2⟩

theorem findAsking_keys (hk : KF P k ka kks) {ks : List Int} (h1 : ks.length = kks.length) : ∀ (es : List MapEntry) (i : Nat), (∀ e ∈ es, ∃ ms, ms.length = kks.length ∧ e.key = keyV ka kks ms) →
    ∃ r, (Instr.findAsking k (keyV ka kks ks) es i).run P w = .ok r w ∧ Found (keyV ka kks ks) es i r
  | [], i, _ => ⟨none, by simp [Instr.findAsking], fun e he => by simp at he⟩
  | e :: es, i, h => by
    obtain ⟨ms, hm, hy⟩ := h e (by simp)
    obtain ⟨r, h3, h4⟩ := findAsking_keys hk h1 es (i + 1) fun e he => h e (by simp [he])
    have he := run_equal_keys (w := w) hk h1 hm
    by_cases hxy : ks = ms
    · subst hxy
      refine ⟨some (i, e.val), ?_, .here hy⟩
      have : eqI ks ks = true := (eqI_iff _ _).2 rfl
      rw [this] at he
      simp [Instr.findAsking, hy, he]
    · refine ⟨r, ?_, .there (fun e' => hxy ((keyV_inj hk h1 hm).1 (by rw [← e', hy]))) h4⟩
      have : eqI ks ms = false := by
        cases hb : eqI ks ms with
        | false => rfl
        | true => exact absurd ((eqI_iff _ _).1 hb) hxy
      rw [this] at he
      simp [Instr.findAsking, hy, he, h3]

theorem run_findKey (hk : KF P k ka kks) {ks : List Int} (h1 : ks.length = kks.length) (es : List MapEntry) (h : ∀ e ∈ es, ∃ ms, ms.length = kks.length ∧ e.key = keyV ka kks ms) :
    ∃ r, (Instr.findKey k (keyV ka kks ks) es).run P w = .ok r w ∧ Found (keyV ka kks ks) es 0 r := by
  rcases hk with ⟨rfl, q, rfl, hq⟩ | hk'
  · match ks, h1 with
    | [x], _ =>
      obtain ⟨r, h2, h3⟩ := findNow_int (q := q) (x := x) es 0 fun e he => by
        obtain ⟨ms, hm, hy⟩ := h e he
        match ms, hm with
        | [y], _ => exact ⟨y, hy⟩
      refine ⟨r, ?_, h3⟩
      show (Instr.findKey k (.int q x) es).run P w = _
      simp [Instr.findKey, run_underlying hq, h2]
  · have hu := hk'.2.1
    obtain rfl := hk'.1
    cases es with
    | nil => exact ⟨none, by simp [Instr.findKey, run_underlying hu, Instr.findNow], fun e he => by simp at he⟩
    | cons e es =>
      obtain ⟨r, h2, h3⟩ := findAsking_keys (w := w) (.inr hk') h1 (e :: es) 0 h
      refine ⟨r, ?_, h3⟩
      have : Instr.findNow (.struct (P.fieldsOf k)) (keyV true kks ks) (e :: es) 0 = none := by simp [Instr.findNow, Instr.sameNow]
      simp [Instr.findKey, run_underlying hu, this, h2]

/-- What a map's entries are. -/
def MRel (R : IV → Value → Prop) (ka : Bool) (kks : List IntKind) (va : Bool) (vn : Nat) (dom : List Int → Bool) (val : List Int → Nat → IV) (es : List MapEntry) : Prop :=
  es.Pairwise (fun x y => x.key ≠ y.key) ∧
  (∀ e ∈ es, ∃ ks, ks.length = kks.length ∧ dom ks = true ∧ e.key = keyV ka kks ks ∧ ∃ cs : List Value, e.val = aggV va cs ∧ cs.length = vn ∧ ∀ j u, cs[j]? = some u → R (val ks j) u) ∧
  (∀ ks, dom ks = true → ks.length = kks.length ∧ ∃ e ∈ es, e.key = keyV ka kks ks)

section
variable {R : IV → Value → Prop} {va : Bool} {vn : Nat} {dom : List Int → Bool} {val : List Int → Nat → IV} {es : List MapEntry}

theorem MRel.keys (h : MRel R ka kks va vn dom val es) : ∀ e ∈ es, ∃ ms, ms.length = kks.length ∧ e.key = keyV ka kks ms :=
  fun e he => let ⟨ks, h1, _, h2, _⟩ := h.2.1 e he; ⟨ks, h1, h2⟩

theorem MRel.none (h : MRel R ka kks va vn dom val es) {ks : List Int} (hf : ∀ e ∈ es, e.key ≠ keyV ka kks ks) : dom ks = false := by
  cases hd : dom ks with
  | false => rfl
  | true => obtain ⟨_, e, he, hk⟩ := h.2.2 ks hd; exact absurd hk (hf e he)

theorem MRel.some (hk : KF P k ka kks) (h : MRel R ka kks va vn dom val es) {ks : List Int} (hl : ks.length = kks.length) {e : MapEntry} (he : e ∈ es) (hek : e.key = keyV ka kks ks) :
    dom ks = true ∧ ∃ cs : List Value, e.val = aggV va cs ∧ cs.length = vn ∧ ∀ j u, cs[j]? = some u → R (val ks j) u := by
  obtain ⟨ms, h1, h2, h3, h4⟩ := h.2.1 e he
  have : ms = ks := (keyV_inj hk h1 hl).1 (by rw [← h3, hek])
  subst this
  exact ⟨h2, h4⟩

theorem MRel.put_none (_hk : KF P k ka kks) (h : MRel R ka kks va vn dom val es) {ks : List Int} (hl : ks.length = kks.length) (hf : ∀ e ∈ es, e.key ≠ keyV ka kks ks) {cs : List Value} (hv : cs.length = vn) {f : Nat → IV} (hR : ∀ j u, cs[j]? = Option.some u → R (f j) u) {e : MapEntry} (hek : e.key = keyV ka kks ks) (hev : e.val = aggV va cs) :
    MRel R ka kks va vn (fun k' => eqI ks k' || dom k') (fun k' => bif eqI ks k' then f else val k') (es ++ [e]) := by
  have hself : eqI ks ks = true := (eqI_iff _ _).2 rfl
  refine ⟨List.pairwise_append.2 ⟨h.1, by simp, fun x hx y hy => ?_⟩, fun x hx => ?_, fun ms hms => ?_⟩
  · simp at hy; subst hy; rw [hek]; exact hf x hx
  · rcases List.mem_append.1 hx with hx | hx
    · obtain ⟨ms, h1, h2, h3, h4⟩ := h.2.1 x hx
      have hne : eqI ks ms = false := by
        cases hb : eqI ks ms with
        | false => rfl
        | true => obtain rfl := (eqI_iff _ _).1 hb; exact absurd h3 (hf x hx)
      exact ⟨ms, h1, by simp [h2], h3, by simpa [hne] using h4⟩
    · simp at hx; subst hx
      exact ⟨ks, hl, by simp [hself], hek, cs, hev, hv, by simpa [hself] using hR⟩
  · cases hb : eqI ks ms with
    | true => obtain rfl := (eqI_iff _ _).1 hb; exact ⟨hl, e, by simp, hek⟩
    | false =>
      simp only [hb, Bool.false_or] at hms
      obtain ⟨h1, x, hx, h2⟩ := h.2.2 ms hms
      exact ⟨h1, x, by simp [hx], h2⟩

theorem MRel.put_some (hk : KF P k ka kks) (h : MRel R ka kks va vn dom val es) {ks : List Int} (hl : ks.length = kks.length) {i : Nat} {e0 : MapEntry} (hi : es[i]? = Option.some e0) (hf : e0.key = keyV ka kks ks) {cs : List Value} (hv : cs.length = vn) {f : Nat → IV} (hR : ∀ j u, cs[j]? = Option.some u → R (f j) u) {e : MapEntry} (hek : e.key = keyV ka kks ks) (hev : e.val = aggV va cs) :
    MRel R ka kks va vn (fun k' => eqI ks k' || dom k') (fun k' => bif eqI ks k' then f else val k') (es.set i e) := by
  have hself : eqI ks ks = true := (eqI_iff _ _).2 rfl
  have hlt : i < es.length := (List.getElem?_eq_some_iff.1 hi).1
  have hei : es[i] = e0 := (List.getElem?_eq_some_iff.1 hi).2
  have hp := List.pairwise_iff_getElem.1 h.1
  refine ⟨?_, fun x hx => ?_, fun ms hms => ?_⟩
  · rw [List.pairwise_iff_getElem]
    intro a b ha hb hab
    simp only [List.length_set] at ha hb
    have := hp a b ha hb hab
    rw [List.getElem_set, List.getElem_set]
    split
    · rename_i h1; subst h1
      split
      · omega
      · rw [hek, ← hf, ← hei]; exact this
    · split
      · rename_i h1; subst h1; rw [hek, ← hf, ← hei]; exact this
      · exact this
  · obtain ⟨n, hn, rfl⟩ := List.mem_iff_getElem.1 hx
    simp only [List.length_set] at hn
    rw [List.getElem_set]
    split
    · exact ⟨ks, hl, by simp [hself], hek, cs, hev, hv, by simpa [hself] using hR⟩
    · rename_i hne
      obtain ⟨ms, h1, h2, h3, h4⟩ := h.2.1 es[n] (List.getElem_mem hn)
      have hne : eqI ks ms = false := by
        cases hb : eqI ks ms with
        | false => rfl
        | true =>
          obtain rfl := (eqI_iff _ _).1 hb
          rcases Nat.lt_or_gt_of_ne hne with h5 | h5
          · exact absurd (by rw [hei, hf, h3]) (hp i n hlt hn h5)
          · exact absurd (by rw [hei, hf, h3]) (hp n i hn hlt h5)
      exact ⟨ms, h1, by simp [h2], h3, by simpa [hne] using h4⟩
  · cases hb : eqI ks ms with
    | true => obtain rfl := (eqI_iff _ _).1 hb; exact ⟨hl, e, List.mem_iff_getElem.2 ⟨i, by simpa using hlt, by simp⟩, hek⟩
    | false =>
      simp only [hb, Bool.false_or] at hms
      obtain ⟨h1, x, hx, h2⟩ := h.2.2 ms hms
      obtain ⟨n, hn, rfl⟩ := List.mem_iff_getElem.1 hx
      refine ⟨h1, es[n], List.mem_iff_getElem.2 ⟨n, by simpa using hn, ?_⟩, h2⟩
      rw [List.getElem_set, if_neg]
      rintro rfl
      rw [hei, hf] at h2
      have := (keyV_inj hk hl h1).1 h2
      subst this
      rw [hself] at hb; cases hb
end

theorem sameBits_ints (n : Nat) : ∀ (kks : List IntKind) (ks : List Int), ((keyCells kks ks).zip (keyCells kks ks)).all (fun (x, y) => Instr.sameBits n x y) = true
  | [], _ => by simp [keyCells]
  | _ :: _, [] => by simp [keyCells]
  | q :: kks, x :: ks => by
    have := sameBits_ints n kks ks
    simp only [keyCells, List.zipWith, List.zip_cons_cons, List.all_cons] at this ⊢
    rw [this]
    simp [Instr.sameBits]

theorem sameBits_key (hk : KF P k ka kks) {ks : List Int} (hl : ks.length = kks.length) (n : Nat) : Instr.sameBits (n + 1) (keyV ka kks ks) (keyV ka kks ks) = true := by
  rcases hk with ⟨rfl, q, rfl, hq⟩ | ⟨rfl, _⟩
  · match ks, hl with
    | [x], _ => simp [keyV, aggV, keyCells, Instr.sameBits]
  · simp only [keyV, aggV, cond_true, Instr.sameBits, beq_self_eq_true, Bool.true_and]
    simpa using sameBits_ints n kks ks
end
end Go.Proofs.YtmpddomgiplnmaaDoor.Abs

/-
  MAPS WHOSE KEYS ARE INTEGERS (2): the operations on abstract values.
-/
namespace Go.Proofs.YtmpddomgiplnmaaDoor.Abs
open Go

def aggOf : Value → Bool
  | .agg _ => true
  | _ => false

def isSt : TK → Bool
  | .st _ => true
  | _ => false

theorem names_ok {P : Program} {t : TypeId} (h : ((P.fieldsOf t).toList.all fun f => f.name != "_") = true) : ∀ f ∈ (P.fieldsOf t).toList, f.name ≠ "_" := by
  intro f hf
  have := List.all_eq_true.1 h f hf
  simpa using this

structure MoreOk (P : Program) (T : Lays) : Prop where
  eqs : ∀ t fs s b z, T t = some ⟨.st fs, s, b, z⟩ → EqOk P t
  eqa : ∀ t n e s b z, T t = some ⟨.arr n e, s, b, z⟩ → P.eqGuardType P.depth t = false
  size : ∀ t x, T t = some x → x.zero.length = x.size
  zform : ∀ t L, T t = some L → ((P.info? t).bind fun i => i.zero.map aggOf) = some (isAgg L.kind)

section
variable {P : Program} {T : Lays} {F : Nat → Prop} {w : World} {O : Nat → Prop} {μ : Nat → Option Nat} {H : Nat → Option ABlk} {nx : Nat} {E : Nat → SV} {a : Act}

theorem kindsEq_eq : ∀ {l m : List IntKind}, kindsEq l m = true → l = m
  | [], [], _ => rfl
  | [], _ :: _, h => by simp [kindsEq] at h
  | _ :: _, [], h => by simp [kindsEq] at h
  | x :: l, y :: m, h => by
    simp only [kindsEq] at h
    cases hk : kindEq x y with
    | false => rw [hk] at h; simp at h
    | true => rw [hk] at h; rw [kindEq_eq hk, kindsEq_eq h]
theorem bEq_eq {a b : Bool} (h : bEq a b = true) : a = b := by cases a <;> cases b <;> simp [bEq] at h <;> rfl

theorem keyInts_rel : ∀ (l : List AV) (kks : List IntKind) (ks : List Int) (cs : List Value), keyInts l = some (kks, ks) → LRel w O μ l cs → cs = keyCells kks ks ∧ ks.length = kks.length
  | [], kks, ks, cs, h, hl => by
    simp only [keyInts, Option.some.injEq, Prod.mk.injEq] at h
    obtain ⟨rfl, rfl⟩ := h
    have := hl.1
    exact ⟨List.length_eq_zero_iff.1 this, rfl⟩
  | x :: l, kks, ks, cs, h, hl => by
    cases cs with
    | nil => exact absurd hl.1 (by simp)
    | cons u cs =>
      cases x with
      | imm y =>
        cases y with
        | val v =>
          cases v with
          | int q n =>
            simp only [keyInts] at h
            split at h
            · rename_i kks' ks' h'
              simp only [Option.some.injEq, Prod.mk.injEq] at h
              obtain ⟨rfl, rfl⟩ := h
              have hu := (hl.2 0 _ u rfl rfl).1
              obtain ⟨h1, h2⟩ := keyInts_rel l kks' ks' cs h' ⟨by simpa using hl.1, fun i x u hx hu => hl.2 (i + 1) x u hx hu⟩
              refine ⟨?_, by simp [h2]⟩
              rw [hu, h1]
              rfl
            · cases h
          | _ => simp [keyInts] at h
        | _ => simp [keyInts] at h
      | _ => simp [keyInts] at h

theorem keyOf_rel {x : SV} {ka : Bool} {kks : List IntKind} {ks : List Int} {v : Value} (h : keyOf x = some (ka, kks, ks)) (hx : SRel w O μ x v) : v = keyV ka kks ks ∧ ks.length = kks.length := by
  unfold keyOf at h
  split at h
  · simp only [Option.some.injEq, Prod.mk.injEq] at h
    obtain ⟨rfl, rfl, rfl⟩ := h
    exact ⟨hx.1, rfl⟩
  · rename_i l
    split at h
    · rename_i a b hk
      simp only [Option.some.injEq, Prod.mk.injEq] at h
      obtain ⟨rfl, rfl, rfl⟩ := h
      obtain ⟨cs, rfl, hl⟩ := hx
      obtain ⟨rfl, h2⟩ := keyInts_rel l a b cs hk hl
      exact ⟨rfl, h2⟩
    · cases h
  · cases h

theorem selIV_rel {c : Bool} {x : IV} {z u : Value} (hz : One z) (h : (selIV c x z).2) (h1 : c = true → IRel w O x u) (h2 : c = false → u = z) : IRel w O (selIV c x z).1 u := by
  unfold selIV at h ⊢
  split
  · rename_i q n
    cases c with
    | true => have := h1 rfl; rw [h rfl] at this; exact this
    | false => rw [h2 rfl]; exact ⟨rfl, rfl⟩
  · rename_i b
    cases c with
    | true => have := h1 rfl; rw [h rfl] at this; exact this
    | false => rw [h2 rfl]; exact ⟨rfl, rfl⟩
  · rename_i b
    cases c with
    | true => have := h1 rfl; rw [h rfl] at this; exact this
    | false => rw [h2 rfl]; exact ⟨rfl, rfl⟩
  · cases c with
    | true => exact h1 rfl
    | false => rw [h2 rfl]; exact ivOf_rel hz

theorem selL_rel {c : Bool} {f : Nat → IV} : ∀ (zs : List Value) (j : Nat) (cs : List Value), (∀ z ∈ zs, One z) → (selL c f j zs).2 → cs.length = zs.length → (∀ i u, cs[i]? = some u → (c = true → IRel w O (f (j + i)) u) ∧ (c = false → zs[i]? = some u)) → LRel w O μ (selL c f j zs).1 cs
  | [], _, cs, _, _, hl, _ => by
    obtain rfl := List.length_eq_zero_iff.1 hl
    exact LRel.nil
  | z :: zs, j, [], _, _, hl, _ => by simp at hl
  | z :: zs, j, u :: cs, ho, hp, hl, h => by
    refine LRel.cons (selIV_rel (ho z (by simp)) hp.1 (h 0 u rfl).1 fun hc => ?_) (selL_rel zs (j + 1) cs (fun z hz => ho z (by simp [hz])) hp.2 (by simpa using hl) fun i u hu => ?_)
    · have := (h 0 u rfl).2 hc
      simpa using this.symm
    · have := h (i + 1) u hu
      refine ⟨fun hc => by have := this.1 hc; rwa [show j + (i + 1) = j + 1 + i from by omega] at this, fun hc => by simpa using this.2 hc⟩

theorem run_zeroForm (hT : LayOk P T) (hM : MoreOk P T) {t : TypeId} {L : Lay} (hL : T t = some L) (w : World) : ∃ z, (zeroValue t).run P w = .ok z w ∧ z.cells = L.zero.toArray ∧ aggOf z = isAgg L.kind := by
  obtain ⟨i, d, hi, _, _, ⟨z, hz, hc⟩, _, _⟩ := lay_info (hT t L hL)
  refine ⟨z, by simp [zeroValue, typeInfo, hi, hz], ?_, ?_⟩
  · apply Array.toList_inj.1
    simp [hc]
  · have := hM.zform t L hL
    rw [hi] at this
    simpa [hz] using this

/-- The contents of a map value. -/
theorem mapOf_rel (hH : HRel F w μ H nx) {m : AV} {ka va : Bool} {kks : List IntKind} {vn : Nat} {dom : List Int → Bool} {val : List Int → Nat → IV} {v : Value} (h : mapOf H m = some (ka, kks, va, vn, dom, val)) (hm : ARel w (Own F H μ) μ m v) :
    ∃ b es clock, v = .map (some b) ∧ w.heap[b]? = some (.map es clock) ∧ MRel (IRel w (Own F H μ)) ka kks va vn dom val es.toList := by
  unfold mapOf at h
  split at h
  · simp only [Option.some.injEq, Prod.mk.injEq] at h
    obtain ⟨rfl, rfl, rfl, rfl, rfl, rfl⟩ := h
    obtain ⟨b, es, clock, hv, _, _, h3, h4, h5, h6⟩ := hm
    exact ⟨b, es, clock, hv, h3, h4.keys, h5, h6⟩
  · rename_i k
    split at h
    · rename_i hb
      simp only [Option.some.injEq, Prod.mk.injEq] at h
      obtain ⟨rfl, rfl, rfl, rfl, rfl, rfl⟩ := h
      obtain ⟨b, hb1, hv⟩ := hm
      obtain ⟨b2, es, clock, hb2, h3, h4, h5, h6⟩ := (hH.blk k _ hb).2
      obtain rfl : b2 = b := by rw [hb1] at hb2; exact (Option.some.inj hb2).symm
      exact ⟨b2, es, clock, hv, h3, h4.keys, h5, h6⟩
    · cases h
  · cases h

theorem run_getObj_map {b clock : Nat} {es : Array MapEntry} (h : w.heap[b]? = some (.map es clock)) : (getObj b).run P w = .ok (.map es clock) w := by
  simp [getObj, Sem.run, h]

theorem aggV_rel {l : List AV} {c : CV} {va : Bool} (hm : mk va l = some c) {cs : List Value} (hl : LRel w O μ l cs) : CRel w O μ c (aggV va cs) := by
  obtain ⟨v, hv, h⟩ := mk_sound hm hl
  rcases h with ⟨rfl, rfl⟩ | ⟨rfl, rfl⟩
  · exact hv
  · exact hv

theorem zero_aggV {z : Value} {va : Bool} {l : List Value} (h1 : z.cells = l.toArray) (h2 : aggOf z = va) : z = aggV va l := by
  cases va with
  | true =>
    cases z <;> simp [aggOf] at h2
    rename_i cs
    simp only [Value.cells] at h1
    simp [aggV, h1]
  | false =>
    have hz : z.cells = #[z] := by cases z <;> first | rfl | (simp [aggOf] at h2)
    rw [hz] at h1
    have : l = [z] := by
      have := congrArg Array.toList h1
      simpa using this.symm
    simp [aggV, this]

theorem yield_lookup (hT : LayOk P T) (hZ : ∀ t x, T t = some x → x.zero.all (·.oneCell') = true) (hM : MoreOk P T) (hH : HRel F w μ H nx) (hE : ERel w (Own F H μ) μ E a) {o : Oper} {t k e : TypeId} {x ix : Operand} {ok : Bool} {s b : Nat} {z : List Value} {m : AV} {ka va : Bool} {kks : List IntKind} {ks : List Int} {L : Lay} {vn : Nat} {dom : List Int → Bool} {val : List Int → Nat → IV} {c : CV}
    (ho : o.op = .lookup t x ix ok) (hL : T t = some ⟨.map k e, s, b, z⟩) (hx : rd E x = .cv (.one m)) (hix : keyOf (rd E ix) = some (ka, kks, ks)) (hk : keyForm T k = some (ka, kks)) (hF : T e = some L) (hm : mapOf H m = some (ka, kks, va, vn, dom, val))
    (hva : va = isAgg L.kind) (hvn : vn = L.zero.length) (hc : mk (isAgg L.kind) (selL (dom ks) (val ks) 0 L.zero).1 = some c) (hnx : need E x) (hni : need E ix) (hp : (selL (dom ks) (val ks) 0 L.zero).2) :
    Yield P w (Own F H μ) μ a o (bif ok then .tup [c, ibool (dom ks)] else .cv c) := by
  obtain ⟨bm, es, clock, hv, hb, hR⟩ := mapOf_rel hH hm (rd_one hE hx hnx)
  obtain ⟨hkv, hkl⟩ := keyOf_rel hix (rd_sound hE ix hni)
  have hKF := keyForm_sound hT hM.eqs hk
  have hu : P.underlying t = some (.map k e) := by
    obtain ⟨i, d, _, _, _, _, hd, hk⟩ := lay_info (hT t _ hL)
    cases d <;> simp [kindOf] at hk
    obtain ⟨rfl, rfl⟩ := hk; exact hd
  obtain ⟨r, hr, hf⟩ := run_findKey (w := w) hKF hkl es.toList hR.keys
  have hzo : ∀ u ∈ L.zero, One u := by
    have := hZ e L hF
    rw [List.all_eq_true] at this
    exact this
  have hchk := run_checkKey (w := w) hKF hkl es.isEmpty 9998
  -- the value
  have key : ∃ v0 cs, v0 = aggV va cs ∧ LRel w (Own F H μ) μ (selL (dom ks) (val ks) 0 L.zero).1 cs ∧ ((Instr.lookup t (a.eval x) (a.eval ix) ok).run P w = .ok (if ok then .tuple #[v0, .bool (dom ks)] else v0) w) := by
    cases r with
    | none =>
      have hd := hR.none hf
      obtain ⟨z0, hz0, hz1, hz2⟩ := run_zeroForm hT hM hF w
      have hzv := zero_aggV hz1 (hz2.trans hva.symm)
      refine ⟨z0, L.zero, hzv, selL_rel _ 0 _ hzo hp rfl fun i u hu => ⟨fun hc => (by rw [hd] at hc; cases hc), fun _ => hu⟩, ?_⟩
      simp only [Instr.lookup, hv, hkv, Sem.run_bind, run_underlying hu, Result.andThen_ok, run_getObj_map hb, Sem.run_pure, hd]
      rw [show (10000 : Nat) = 9998 + 2 from rfl, hchk]
      simp [Result.andThen_ok, hr, hz0]
    | some iv =>
      obtain ⟨i, v0⟩ := iv
      obtain ⟨_, e0, he0, hek, hev⟩ := hf
      obtain ⟨hd, cs, hcs, hlen, hRv⟩ := hR.some hKF hkl (List.mem_of_getElem? he0) hek
      subst hev
      refine ⟨e0.val, cs, hcs, selL_rel _ 0 _ hzo hp (by rw [hlen, hvn]) fun i u hu => ⟨fun _ => (by simpa using hRv i u hu), fun hc => (by rw [hd] at hc; cases hc)⟩, ?_⟩
      simp only [Instr.lookup, hv, hkv, Sem.run_bind, run_underlying hu, Result.andThen_ok, run_getObj_map hb, Sem.run_pure, hd]
      rw [show (10000 : Nat) = 9998 + 2 from rfl, hchk]
      simp [Result.andThen_ok, hr]
  obtain ⟨v0, cs, hv0, hl, hrun⟩ := key
  subst hva
  have hcv := aggV_rel hc hl
  rw [← hv0] at hcv
  refine ⟨_, by simp only [execOp, ho, Sem.run_bind, hrun, Result.andThen_ok, Sem.run_pure]; rfl, ?_⟩
  cases ok with
  | true =>
    refine ⟨[v0, .bool (dom ks)], rfl, rfl, fun i x u h1 h2 => ?_⟩
    match i, h1, h2 with
    | 0, h1, h2 => simp at h1 h2; subst h1; subst h2; exact hcv
    | 1, h1, h2 => simp at h1 h2; subst h1; subst h2; exact ⟨rfl, rfl⟩
  | false => exact hcv

theorem yield_aggB0 (hT : LayOk P T) (hM : MoreOk P T) (hE : ERel w O μ E a) {o : Oper} {op : BinOp} {t t' : TypeId} {x y : Operand} {b : Bool} (ho : o.op = .binOp op t x y t')
    (h : aggB0 T op t (rd E x) (rd E y) = some b) (hx : need E x) (hy : need E y) : Yield P w O μ a o (.cv (ibool b)) := by
  have core : ∀ (l m : List AV) (kks k1 k2 : List IntKind) (xs ys : List Int), rd E x = .cv (.agg l) → rd E y = .cv (.agg m) → keyForm T t = some (true, kks) → keyInts l = some (k1, xs) → keyInts m = some (k2, ys) → kks = k1 → kks = k2 →
      ∃ X Y, a.eval x = .agg X ∧ a.eval y = .agg Y ∧ EqOk P t ∧ (Op.equalIn 10000 t (.agg X) (.agg Y)).run P w = .ok (eqI xs ys) w := by
    rintro l m kks k1 k2 xs ys h1 h2 h3 h4 h5 rfl rfl
    have hKF := keyForm_sound hT hM.eqs h3
    obtain ⟨e1, n1⟩ := keyOf_rel (x := .cv (.agg l)) (ka := true) (kks := kks) (ks := xs) (v := a.eval x) (by simp [keyOf, h4]) (by have := rd_sound hE x hx; rwa [h1] at this)
    obtain ⟨e2, n2⟩ := keyOf_rel (x := .cv (.agg m)) (ka := true) (kks := kks) (ks := ys) (v := a.eval y) (by simp [keyOf, h5]) (by have := rd_sound hE y hy; rwa [h2] at this)
    have hr := run_equal_keys (w := w) hKF n1 n2
    refine ⟨_, _, e1, e2, ?_, hr⟩
    rcases hKF with ⟨h, _⟩ | ⟨_, _, h, _⟩
    · cases h
    · exact h
  unfold aggB0 at h
  split at h
  · rename_i l m h1 h2
    split at h
    · rename_i kks k1 xs k2 ys h3 h4 h5
      cases hc : (kindsEq kks k1 && kindsEq kks k2) with
      | false => rw [hc] at h; simp at h
      | true =>
        rw [hc] at h
        simp only [cond_true, Option.some.injEq] at h
        subst h
        simp only [Bool.and_eq_true] at hc
        obtain ⟨X, Y, e1, e2, hok, hr⟩ := core l m kks k1 k2 xs ys h1 h2 h3 h4 h5 (kindsEq_eq hc.1) (kindsEq_eq hc.2)
        refine ⟨.bool (eqI xs ys), ?_, ⟨rfl, rfl⟩⟩
        simp only [execOp, ho, e1, e2, Sem.run_bind, run_eqGuard_agg w _ t x y X Y hok.guard, Result.andThen_ok, run_eql_struct, hr, Sem.run_pure]
    · cases h
  · rename_i l m h1 h2
    split at h
    · rename_i kks k1 xs k2 ys h3 h4 h5
      cases hc : (kindsEq kks k1 && kindsEq kks k2) with
      | false => rw [hc] at h; simp at h
      | true =>
        rw [hc] at h
        simp only [cond_true, Option.some.injEq] at h
        subst h
        simp only [Bool.and_eq_true] at hc
        obtain ⟨X, Y, e1, e2, hok, hr⟩ := core l m kks k1 k2 xs ys h1 h2 h3 h4 h5 (kindsEq_eq hc.1) (kindsEq_eq hc.2)
        refine ⟨.bool (!(eqI xs ys)), ?_, ⟨rfl, rfl⟩⟩
        simp only [execOp, ho, e1, e2, Sem.run_bind, run_eqGuard_agg w _ t x y X Y hok.guard, Result.andThen_ok, run_neq_struct, hr, Sem.run_pure]
    · cases h
  · cases h

theorem under_bool' {t : TypeId} {s b : Nat} {z : List Value} (h : LayOk1 P t ⟨.bool, s, b, z⟩) : P.underlying t = some .bool := by
  obtain ⟨i, d, _, _, _, _, hd, hk⟩ := lay_info h
  cases d <;> simp [kindOf] at hk
  exact hd

theorem eqTy_top {f : Nat} {t : TypeId} {l m : List AV} {b : Bool} (h : eqTy T (f + 1) t (.agg l) (.agg m) = some b) : (∃ fs s bb z, T t = some ⟨.st fs, s, bb, z⟩) ∨ ∃ n e s bb z, T t = some ⟨.arr n e, s, bb, z⟩ := by
  simp only [eqTy] at h
  split at h
  · cases h
  · cases h
  · rename_i fs s bb z hL
    exact .inl ⟨_, _, _, _, hL⟩
  · rename_i n e s bb z hL
    exact .inr ⟨_, _, _, _, _, hL⟩
  · cases h

theorem partC_run {w : World} {O : Nat → Prop} {μ : Nat → Option Nat} {t : TypeId} {L : Lay} {l : List AV} {cs : List Value} {off : Nat} {c : CV} (hT : LayOk1 P t L) (hl : LRel w O μ l cs) (h : partC L l off = some c) : ∃ v, (part t cs.toArray off).run P w = .ok v w ∧ CRel w O μ c v := by
  unfold partC at h
  cases hb : lenIs ((l.drop off).take L.size) L.size with
  | false => rw [hb] at h; simp at h
  | true =>
    rw [hb] at h
    exact part_run hT hl hb h

theorem run_equalIn_arr {w : World} (d : Nat) {t e : TypeId} {n sz : Nat} {i : TypeInfo} (X Y : Array Value) (ht : P.underlying t = some (.array n e)) (hi : P.info? e = some i) (hsz : i.size = sz) (g : Nat → Bool) (hg : ∀ k, k < n → ∃ u v, (part e X (k * sz)).run P w = .ok u w ∧ (part e Y (k * sz)).run P w = .ok v w ∧ (Op.equalIn d e u v).run P w = .ok (g k) w) :
    (Op.equalIn (d + 1) t (.agg X) (.agg Y)).run P w = .ok ((List.range n).all g) w := by
  have hs : (sizeOf e).run P w = .ok sz w := by simp [sizeOf, typeInfo, hi, hsz]
  simp only [Op.equalIn, Sem.run_bind, run_underlying ht, Result.andThen_ok, hs]
  simp only [Std.Legacy.Range.forIn_eq_forIn_range', Std.Legacy.Range.size, Nat.sub_zero, Nat.add_one_sub_one, Nat.div_one, List.range_eq_range']
  have key : ∀ (m s : Nat), s + m ≤ n → ∀ (K : Bool → Sem Bool), True := fun _ _ _ _ => trivial
  clear key
  have hall : ∀ k, k ∈ List.range' 0 n → ∃ u v, (part e X (k * sz)).run P w = .ok u w ∧ (part e Y (k * sz)).run P w = .ok v w ∧ (Op.equalIn d e u v).run P w = .ok (g k) w := fun k hk => hg k (by simpa using hk)
  generalize List.range' 0 n = ks at hall
  induction ks with
  | nil => simp
  | cons k ks ih =>
    obtain ⟨u, v, h1, h2, h3⟩ := hall k (by simp)
    have ih := ih fun k' hk' => hall k' (by simp [hk'])
    simp only [List.forIn_cons, Sem.run_bind, h1, h2, h3, Result.andThen_ok]
    cases hgk : g k with
    | false => simp [hgk]
    | true =>
      simp only [Bool.not_true, Bool.false_eq_true, if_false, Sem.run_pure, Result.andThen_ok, List.all_cons, hgk, Bool.true_and]
      exact ih

theorem eqTy_sound {w : World} {O : Nat → Prop} {μ : Nat → Option Nat} (hT : LayOk P T) (hM : MoreOk P T) : ∀ (f : Nat) (t : TypeId) (x y : CV) (b : Bool), eqTy T f t x y = some b → ∀ (u v : Value), CRel w O μ x u → CRel w O μ y v → ∀ d, f ≤ d → (Op.equalIn d t u v).run P w = .ok b w := by
  intro f
  induction f with
  | zero => intro t x y b h; simp [eqTy] at h
  | succ f ih =>
    intro t x y b h u v hu hv d hd
    obtain ⟨d, rfl⟩ : ∃ d', d = d' + 1 := ⟨d - 1, by omega⟩
    simp only [eqTy] at h
    split at h
    · rename_i q s bb z hL
      split at h
      · rename_i k a k' a'
        cases hk : kindsEq [k] [k'] with
        | false => rw [hk] at h; simp at h
        | true =>
          rw [hk] at h
          simp only [cond_true, Option.some.injEq] at h
          subst h
          have hkk := kindsEq_eq hk
          simp only [List.cons.injEq, and_true] at hkk
          subst hkk
          obtain ⟨rfl, _⟩ := (show u = .int k a ∧ One (.int k a) from hu)
          obtain ⟨rfl, _⟩ := (show v = .int k a' ∧ One (.int k a') from hv)
          exact run_equalIn_int w d t k q a a' (under_int (hT t _ hL))
      · cases h
    · rename_i s bb z hL
      split at h
      · rename_i a a'
        simp only [Option.some.injEq] at h
        subst h
        obtain ⟨rfl, _⟩ := (show u = .bool a ∧ One (.bool a) from hu)
        obtain ⟨rfl, _⟩ := (show v = .bool a' ∧ One (.bool a') from hv)
        exact run_equalIn_bool' w d t a a' (under_bool' (hT t _ hL))
      · cases h
    · rename_i fs s bb z hL
      split at h
      · rename_i l m
        obtain ⟨xs, rfl, hxs⟩ := hu
        obtain ⟨ys, rfl, hys⟩ := hv
        obtain ⟨fields, hun, hfs⟩ := under_st (hT t _ hL)
        have hfo : P.fieldsOf t = fields := by simp [Program.fieldsOf, hun]
        have hok := hM.eqs t _ _ _ _ hL
        rw [run_equalIn_struct w d t _ _ (by rw [hfo]; exact hun) hok.stood]
        have hnames := hok.names
        rw [hfo] at hnames ⊢
        rw [← hfs] at h
        clear hfs hfo hun hok hL
        generalize fields.toList = fl at h hnames
        induction fl generalizing b with
        | nil => simp only [List.map_nil, eqFs, Option.some.injEq] at h; subst h; simp [Op.eqFields]
        | cons fd fl ihf =>
          simp only [List.map_cons, eqFs] at h
          split at h
          · rename_i L hLf
            split at h
            · rename_i cx cy h1 h2
              split at h
              · rename_i a1 b1 h3 h4
                simp only [Option.some.injEq] at h
                subst h
                obtain ⟨v1, r1, c1⟩ := partC_run (P := P) (hT _ _ hLf) hxs h1
                obtain ⟨v2, r2, c2⟩ := partC_run (P := P) (hT _ _ hLf) hys h2
                have h5 := ih _ _ _ _ h3 v1 v2 c1 c2 d (by omega)
                have h6 := ihf _ h4 fun g hg => hnames g (by simp [hg])
                have hn := hnames fd (by simp)
                simp only [Op.eqFields, hn, ne_eq, not_false_eq_true, if_true, Sem.run_bind, r1, r2, h5, Result.andThen_ok, Sem.run_ite]
                cases a1 with
                | false => simp
                | true => simpa using h6
              · cases h
            · cases h
          · cases h
      · cases h
    · rename_i n e s bb z hL
      split at h
      · rename_i l m L hLe
        obtain ⟨xs, rfl, hxs⟩ := hu
        obtain ⟨ys, rfl, hys⟩ := hv
        obtain ⟨i, dd, hi, hsz, _, _, _, _⟩ := lay_info (hT e L hLe)
        have hun := under_arr (hT t _ hL)
        -- the elements, one by one
        have key : ∀ (k s : Nat) (b : Bool), eqEs (eqTy T f e) L l m k s = some b → ∃ g : Nat → Bool, b = (List.range k).all (fun j => g (s + j)) ∧ ∀ j, s ≤ j → j < s + k → ∃ u v, (part e xs.toArray (j * L.size)).run P w = .ok u w ∧ (part e ys.toArray (j * L.size)).run P w = .ok v w ∧ (Op.equalIn d e u v).run P w = .ok (g j) w := by
          intro k
          induction k with
          | zero => intro s b h; simp only [eqEs, Option.some.injEq] at h; subst h; exact ⟨fun _ => true, by simp, fun j h1 h2 => by omega⟩
          | succ k ihk =>
            intro s b h
            simp only [eqEs] at h
            split at h
            · rename_i cx cy h1 h2
              split at h
              · rename_i a1 b1 h3 h4
                simp only [Option.some.injEq] at h
                subst h
                obtain ⟨g, hg1, hg2⟩ := ihk (s + 1) b1 h4
                obtain ⟨v1, r1, c1⟩ := partC_run (P := P) (hT _ _ hLe) hxs h1
                obtain ⟨v2, r2, c2⟩ := partC_run (P := P) (hT _ _ hLe) hys h2
                have h5 := ih _ _ _ _ h3 v1 v2 c1 c2 d (by omega)
                refine ⟨fun j => if j = s then a1 else g j, ?_, fun j hj1 hj2 => ?_⟩
                · rw [List.range_succ_eq_map, List.all_cons, List.all_map]
                  simp only [Nat.add_zero, if_true]
                  rw [hg1]
                  congr 1
                  refine List.all_congr rfl fun j => ?_
                  have : s + (j + 1) ≠ s := by omega
                  simp only [Function.comp_apply, Nat.succ_eq_add_one, this, if_false]
                  congr 1
                  omega
                · by_cases hjs : j = s
                  · subst hjs
                    exact ⟨v1, v2, r1, r2, by simpa using h5⟩
                  · obtain ⟨u, v, q1, q2, q3⟩ := hg2 j (by omega) (by omega)
                    exact ⟨u, v, q1, q2, by simpa [hjs] using q3⟩
              · cases h
            · cases h
        obtain ⟨g, hg1, hg2⟩ := key n 0 b h
        have := run_equalIn_arr (P := P) (w := w) d xs.toArray ys.toArray hun hi hsz g fun k hk => hg2 k (Nat.zero_le _) (by omega)
        rw [this, hg1]
        simp
      · cases h
    · cases h

theorem yield_aggB (hT : LayOk P T) (hM : MoreOk P T) (hE : ERel w O μ E a) {o : Oper} {op : BinOp} {t t' : TypeId} {x y : Operand} {b : Bool} (ho : o.op = .binOp op t x y t')
    (h : aggB T op t (rd E x) (rd E y) = some b) (hx : need E x) (hy : need E y) : Yield P w O μ a o (.cv (ibool b)) := by
  unfold aggB at h
  split at h
  · rename_i b0 h0
    simp only [Option.some.injEq] at h
    subst h
    exact yield_aggB0 hT hM hE ho h0 hx hy
  · rename_i h0
    clear h0
    have core : ∀ (l m : List AV) (b : Bool), rd E x = .cv (.agg l) → rd E y = .cv (.agg m) → eqTy T 9 t (.agg l) (.agg m) = some b →
        ∃ X Y, a.eval x = .agg X ∧ a.eval y = .agg Y ∧ P.eqGuardType P.depth t = false ∧ (Op.equalIn 10000 t (.agg X) (.agg Y)).run P w = .ok b w := by
      intro l m b h1 h2 h3
      have hcx : CRel w O μ (.agg l) (a.eval x) := by have := rd_sound hE x hx; rwa [h1] at this
      have hcy : CRel w O μ (.agg m) (a.eval y) := by have := rd_sound hE y hy; rwa [h2] at this
      have hr := eqTy_sound (w := w) hT hM 9 t _ _ b h3 _ _ hcx hcy 10000 (by omega)
      obtain ⟨xs, e1, _⟩ := hcx
      obtain ⟨ys, e2, _⟩ := hcy
      refine ⟨_, _, e1, e2, ?_, by rw [← e1, ← e2]; exact hr⟩
      rcases eqTy_top h3 with ⟨_, _, _, _, hL⟩ | ⟨_, _, _, _, _, hL⟩
      · exact (hM.eqs t _ _ _ _ hL).guard
      · exact hM.eqa t _ _ _ _ _ hL
    unfold aggB1 at h
    split at h
    · rename_i l m h1 h2
      obtain ⟨X, Y, e1, e2, hok, hr⟩ := core l m b h1 h2 h
      refine ⟨.bool b, ?_, ⟨rfl, rfl⟩⟩
      simp only [execOp, ho, e1, e2, Sem.run_bind, run_eqGuard_agg w _ t x y X Y hok, Result.andThen_ok, run_eql_struct, hr, Sem.run_pure]
    · rename_i l m h1 h2
      split at h
      · rename_i b' hb'
        simp only [Option.some.injEq] at h
        subst h
        obtain ⟨X, Y, e1, e2, hok, hr⟩ := core l m b' h1 h2 hb'
        refine ⟨.bool (!b'), ?_, ⟨rfl, rfl⟩⟩
        simp only [execOp, ho, e1, e2, Sem.run_bind, run_eqGuard_agg w _ t x y X Y hok, Result.andThen_ok, run_neq_struct, hr, Sem.run_pure]
      · cases h
    · cases h
end
end Go.Proofs.YtmpddomgiplnmaaDoor.Abs
