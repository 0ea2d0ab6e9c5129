/-
  CALLS THAT CHANGE MEMORY OF OURS, OR MAKE SOME: the names of blocks changed on the way in and out.
-/
import Derived.Test.YtndfcbcmeeemfaaB7
namespace Go.Proofs.Ytndfcbcmeeemfaa.Abs
open Go

def renA (ρ : Nat → Nat) : AV → AV
  | .own b e i j => .own (ρ b) e i j
  | .osl b e r j len app => .osl (ρ b) e r j len app
  | .omp b => .omp (ρ b)
  | .fn f nf first nc caps => .fn f nf (fun i => renA ρ (first i)) nc fun i => renA ρ (caps i)
  | .imm x => .imm x
  | .vptr n c => .vptr n c
def renC (ρ : Nat → Nat) : CV → CV
  | .one x => .one (renA ρ x)
  | .agg l => .agg (l.map (renA ρ))
def renS (ρ : Nat → Nat) : SV → SV
  | .undef => .undef
  | .cv c => .cv (renC ρ c)
  | .tup l => .tup (l.map (renC ρ))
  | .gd c s => .gd c (renS ρ s)
def renB (ρ : Nat → Nat) : ABlk → ABlk
  | .var ty cells => .var ty (cells.map (renA ρ))
  | .rows ty e n cell => .rows ty e n cell
  | .mp ka kks va vn dom val => .mp ka kks va vn dom val

section
variable {K : Nat} {P : Program} {T : Lays} {F : Nat → Prop} {w w' : World} {μ μ' : Nat → Option Nat} {O : Nat → Prop} {ρ : Nat → Nat}

theorem renA_rel : ∀ (x : AV) (v : Value), ARel w O μ (renA ρ x) v ↔ ARel w O (fun k => μ (ρ k)) x v
  | .own _ _ _ _, _ => Iff.rfl
  | .osl _ _ _ _ _ _, _ => Iff.rfl
  | .omp _, _ => Iff.rfl
  | .imm _, _ => Iff.rfl
  | .vptr _ _, _ => Iff.rfl
  | .fn f nf first nc caps, v => by
    constructor
    · rintro ⟨fs, cs, hv, h1, h2, h3, h4⟩
      exact ⟨fs, cs, hv, h1, h2, fun i u hu => (renA_rel (first i) u).1 (h3 i u hu), fun i u hu => (renA_rel (caps i) u).1 (h4 i u hu)⟩
    · rintro ⟨fs, cs, hv, h1, h2, h3, h4⟩
      exact ⟨fs, cs, hv, h1, h2, fun i u hu => (renA_rel (first i) u).2 (h3 i u hu), fun i u hu => (renA_rel (caps i) u).2 (h4 i u hu)⟩

theorem renL_rel (l : List AV) (cs : List Value) : LRel w O μ (l.map (renA ρ)) cs ↔ LRel w O (fun k => μ (ρ k)) l cs := by
  constructor
  · rintro ⟨h1, h2⟩
    exact ⟨by simpa using h1, fun i x u hx hu => (renA_rel x u).1 (h2 i (renA ρ x) u (by simp [hx]) hu)⟩
  · rintro ⟨h1, h2⟩
    refine ⟨by simpa using h1, fun i x u hx hu => ?_⟩
    rw [List.getElem?_map, Option.map_eq_some_iff] at hx
    obtain ⟨y, hy, rfl⟩ := hx
    exact (renA_rel y u).2 (h2 i y u hy hu)

theorem renC_rel (x : CV) (v : Value) : CRel w O μ (renC ρ x) v ↔ CRel w O (fun k => μ (ρ k)) x v := by
  cases x with
  | one x => exact renA_rel x v
  | agg l =>
    constructor
    · rintro ⟨cs, hv, h⟩; exact ⟨cs, hv, (renL_rel l cs).1 h⟩
    · rintro ⟨cs, hv, h⟩; exact ⟨cs, hv, (renL_rel l cs).2 h⟩

theorem renT_rel (l : List CV) (cs : List Value) : TRel w O μ (l.map (renC ρ)) cs ↔ TRel w O (fun k => μ (ρ k)) l cs := by
  constructor
  · rintro ⟨h1, h2⟩
    exact ⟨by simpa using h1, fun i x u hx hu => (renC_rel x u).1 (h2 i (renC ρ x) u (by simp [hx]) hu)⟩
  · rintro ⟨h1, h2⟩
    refine ⟨by simpa using h1, fun i x u hx hu => ?_⟩
    rw [List.getElem?_map, Option.map_eq_some_iff] at hx
    obtain ⟨y, hy, rfl⟩ := hx
    exact (renC_rel y u).2 (h2 i y u hy hu)

theorem renS_rel : ∀ (x : SV) (v : Value), SRel w O μ (renS ρ x) v ↔ SRel w O (fun k => μ (ρ k)) x v
  | .undef, _ => Iff.rfl
  | .cv c, v => renC_rel c v
  | .tup l, v => by
    constructor
    · rintro ⟨vs, hv, h⟩; exact ⟨vs, hv, (renT_rel l vs).1 h⟩
    · rintro ⟨vs, hv, h⟩; exact ⟨vs, hv, (renT_rel l vs).2 h⟩
  | .gd c s, v => by
    unfold renS SRel
    split
    · exact renS_rel s v
    · exact Iff.rfl

theorem renB_rel (k : Nat) (B : ABlk) : BRel w O μ (ρ k) (renB ρ B) ↔ BRel w O (fun k => μ (ρ k)) k B := by
  cases B with
  | var ty cells =>
    constructor
    · rintro ⟨m, cur, h1, h2, h3⟩; exact ⟨m, cur, h1, h2, (renL_rel cells _).1 h3⟩
    · rintro ⟨m, cur, h1, h2, h3⟩; exact ⟨m, cur, h1, h2, (renL_rel cells _).2 h3⟩
  | rows ty e n cell => exact Iff.rfl
  | mp ka kks va vn dom val => exact Iff.rfl

/-- The names on the way out: the blocks that were handed in, then new ones. -/
def rho (l : List Nat) (nx : Nat) (k : Nat) : Nat := match l[k]? with
  | some b => b
  | none => nx + (k - l.length)

def heapOf (l : List ABlk) : Nat → Option ABlk := fun k => l[k]?

/-- What a call does, told in the callee's names. -/
structure Eff where
  blks : List Nat
  res : SV
  upd : List (Nat × Option ABlk)
  cnt : Nat
  vc : Prop

abbrev ETab := FuncId → List CV → (Nat → Option ABlk) → Option Eff

def nodupB : List Nat → Bool
  | [] => true
  | x :: l => !(memN l x) && nodupB l

theorem nodupB_iff : ∀ (l : List Nat), nodupB l = true → l.Nodup
  | [], _ => List.nodup_nil
  | x :: l, h => by
    simp only [nodupB, Bool.and_eq_true, Bool.not_eq_true'] at h
    refine List.nodup_cons.2 ⟨fun hm => ?_, nodupB_iff l h.2⟩
    have := (memN_iff l x).2 hm
    rw [h.1] at this
    cases this

/-- A table of such calls that is true. -/
def ETabOk (P : Program) (et : ETab) : Prop := ∀ f args H e, et f args H = some e → e.vc → CallOk P f ∧ nodupB e.blks = true ∧ ∃ (args0 : List CV) (Bs : List ABlk), Bs.length = e.blks.length ∧ (∀ nx, args = args0.map (renC (rho e.blks nx))) ∧
  (∀ nx (j : Nat) b, e.blks[j]? = some b → H b = (Bs[j]?).map (renB (rho e.blks nx))) ∧
  ACall P f args0 (heapOf Bs) Bs.length fun x H' n' => x = e.res ∧ H' = updH (heapOf Bs) e.upd ∧ n' = Bs.length + e.cnt

theorem rho_old {l : List Nat} {nx k b : Nat} (h : l[k]? = some b) : rho l nx k = b := by simp [rho, h]
theorem rho_new {l : List Nat} {nx k : Nat} (h : l.length ≤ k) : rho l nx k = nx + (k - l.length) := by simp [rho, List.getElem?_eq_none h]

theorem nodup_inj {l : List Nat} (hn : l.Nodup) {i j : Nat} (hi : i < l.length) (hj : j < l.length) (h : l[i] = l[j]) : i = j := by
  have hp := List.pairwise_iff_getElem.1 hn
  rcases Nat.lt_trichotomy i j with h1 | h1 | h1
  · exact absurd h (hp i j hi hj h1)
  · exact h1
  · exact absurd h.symm (hp j i hj hi h1)

theorem rho_inj {l : List Nat} {nx : Nat} (hn : l.Nodup) (hlt : ∀ b ∈ l, b < nx) {j k : Nat} (h : rho l nx j = rho l nx k) : j = k := by
  rcases Nat.lt_or_ge j l.length with hj | hj <;> rcases Nat.lt_or_ge k l.length with hk | hk
  · rw [rho_old (List.getElem?_eq_getElem hj), rho_old (List.getElem?_eq_getElem hk)] at h
    exact nodup_inj hn hj hk h
  · rw [rho_old (List.getElem?_eq_getElem hj), rho_new hk] at h
    have := hlt _ (List.getElem_mem hj); omega
  · rw [rho_new hj, rho_old (List.getElem?_eq_getElem hk)] at h
    have := hlt _ (List.getElem_mem hk); omega
  · rw [rho_new hj, rho_new hk] at h; omega

theorem updH_map {ρ : Nat → Nat} (hinj : ∀ j k, ρ j = ρ k → j = k) (f : ABlk → ABlk) : ∀ (U : List (Nat × Option ABlk)) (H H0 : Nat → Option ABlk), (∀ j, H (ρ j) = (H0 j).map f) →
    ∀ j, updH H (U.map fun p => (ρ p.1, p.2.map f)) (ρ j) = (updH H0 U j).map f
  | [], H, H0, h, j => h j
  | (k, B) :: U, H, H0, h, j => by
    simp only [List.map_cons, updH]
    refine updH_map hinj f U _ _ (fun i => ?_) j
    by_cases hik : i = k
    · subst hik; simp
    · have h1 : Nat.beq (ρ i) (ρ k) = false := by
        cases hb : Nat.beq (ρ i) (ρ k) with
        | false => rfl
        | true => exact absurd (hinj _ _ (Nat.eq_of_beq_eq_true hb)) hik
      have h2 : Nat.beq i k = false := by
        cases hb : Nat.beq i k with
        | false => rfl
        | true => exact absurd (Nat.eq_of_beq_eq_true hb) hik
      rw [h1, h2]
      exact h i

theorem updH_out {ρ : Nat → Nat} (f : Option ABlk → Option ABlk) : ∀ (U : List (Nat × Option ABlk)) (H : Nat → Option ABlk) (k : Nat), (∀ j, ρ j ≠ k) → updH H (U.map fun p => (ρ p.1, f p.2)) k = H k
  | [], _, _, _ => rfl
  | (j, B) :: U, H, k, h => by
    simp only [List.map_cons, updH]
    rw [updH_out f U _ k h]
    have h1 : Nat.beq k (ρ j) = false := by
      cases hb : Nat.beq k (ρ j) with
      | false => rfl
      | true => exact absurd (Nat.eq_of_beq_eq_true hb).symm (h j)
    rw [h1]
    rfl

/-- The caller's side of such a call. -/
theorem call_eff {C : Ctx K} {a : Act} {S : St} {f : FuncId} {vals : List Value} {args : List CV} {et : ETab} (het : ETabOk P et) {e : Eff} (he : et f args S.heap = some e) (hv : e.vc) (hR : Rel C μ S a w) (hA : TRel w (Own C.F S.heap μ) μ args vals) :
    Calls P f vals.toArray w fun ex w' => ∃ v μ', ex = .returned v ∧ Rel C μ' { S with heap := updH S.heap (e.upd.map fun p => (rho e.blks S.next p.1, p.2.map (renB (rho e.blks S.next)))), next := S.next + e.cnt } a w' ∧
      SRel w' (Own C.F (updH S.heap (e.upd.map fun p => (rho e.blks S.next p.1, p.2.map (renB (rho e.blks S.next))))) μ') μ' (renS (rho e.blks S.next) e.res) v := by
  obtain ⟨hok, hnd, args0, Bs, hBl, harg, hB, hcall⟩ := het f args S.heap e he hv
  have hnd := nodupB_iff _ hnd
  have hblt : ∀ b ∈ e.blks, b < S.next := by
    intro b hb
    obtain ⟨j, hj, rfl⟩ := List.mem_iff_getElem.1 hb
    have h1 := hB S.next j _ (List.getElem?_eq_getElem hj)
    rw [List.getElem?_eq_getElem (by omega)] at h1
    exact (hR.heap.blk _ _ h1).1
  generalize hρ : rho e.blks S.next = ρ
  have hinj : ∀ j k, ρ j = ρ k → j = k := by subst hρ; exact fun j k h => rho_inj hnd hblt h
  have hnew : ∀ j, e.blks.length ≤ j → ρ j = S.next + (j - e.blks.length) := by subst hρ; exact fun j h => rho_new h
  have hHj : ∀ j, S.heap (ρ j) = (heapOf Bs j).map (renB ρ) := by
    intro j
    subst hρ
    rcases Nat.lt_or_ge j e.blks.length with hj | hj
    · rw [rho_old (List.getElem?_eq_getElem hj)]
      exact hB S.next j _ (List.getElem?_eq_getElem hj)
    · rw [rho_new hj]
      have h1 : heapOf Bs j = none := List.getElem?_eq_none (by omega)
      rw [h1]
      cases h : S.heap (S.next + (j - e.blks.length)) with
      | none => rfl
      | some B => have := (hR.heap.blk _ B h).1; omega
  -- the callee's view
  let μ0 : Nat → Option Nat := fun k => μ (ρ k)
  let F0 : Nat → Prop := fun m => C.F m ∨ ∃ k, (∀ j, ρ j ≠ k) ∧ (S.heap k).isSome = true ∧ μ k = some m
  have hOwn : ∀ (H1 : Nat → Option ABlk) (H0 : Nat → Option ABlk) (μ1 : Nat → Option Nat), (∀ j, H1 (ρ j) = (H0 j).map (renB ρ)) → (∀ k, (∀ j, ρ j ≠ k) → H1 k = S.heap k ∧ μ1 k = μ k) → Own C.F H1 μ1 = Own F0 H0 fun k => μ1 (ρ k) := by
    intro H1 H0 μ1 h1 h2
    funext m
    apply propext
    constructor
    · rintro (hF | ⟨k, hk, hm⟩)
      · exact .inl (.inl hF)
      · by_cases hr : ∃ j, ρ j = k
        · obtain ⟨j, rfl⟩ := hr
          refine .inr ⟨j, ?_, hm⟩
          rw [h1] at hk
          simpa using hk
        · have hr : ∀ j, ρ j ≠ k := fun j hj => hr ⟨j, hj⟩
          have := h2 k hr
          exact .inl (.inr ⟨k, hr, by rw [← this.1]; exact hk, by rw [← this.2]; exact hm⟩)
    · rintro ((hF | ⟨k, hr, hk, hm⟩) | ⟨j, hj, hm⟩)
      · exact .inl hF
      · have := h2 k hr
        exact .inr ⟨k, by rw [this.1]; exact hk, by rw [this.2]; exact hm⟩
      · exact .inr ⟨ρ j, by rw [h1]; simpa using hj, hm⟩
  have hO0 : Own C.F S.heap μ = Own F0 (heapOf Bs) μ0 := hOwn S.heap (heapOf Bs) μ hHj fun k _ => ⟨rfl, rfl⟩
  have hH0 : HRel F0 w μ0 (heapOf Bs) Bs.length := by
    refine ⟨fun k B hk => ?_, fun k k' m hk hk' hm hm' => ?_, fun k m hm => ?_, fun k m hk hm hF => ?_, fun m hF => ?_⟩
    · refine ⟨(List.getElem?_eq_some_iff.1 hk).1, ?_⟩
      have h1 : S.heap (ρ k) = some (renB ρ B) := by rw [hHj, hk]; rfl
      have := (hR.heap.blk _ _ h1).2
      rw [hO0] at this
      exact (renB_rel k B).1 this
    · have h1 : (S.heap (ρ k)).isSome = true := by rw [hHj]; simpa using hk
      have h2 : (S.heap (ρ k')).isSome = true := by rw [hHj]; simpa using hk'
      exact hinj _ _ (hR.heap.inj _ _ m h1 h2 hm hm')
    · have := hR.heap.lt (ρ k) m hm
      refine ⟨?_, this.2⟩
      rcases Nat.lt_or_ge k Bs.length with h | h
      · exact h
      · have := hnew k (by omega); omega
    · have h1 : (S.heap (ρ k)).isSome = true := by rw [hHj]; simpa using hk
      rcases hF with hF | ⟨k', hr, hk', hm'⟩
      · exact hR.heap.dis (ρ k) m h1 hm hF
      · exact hr k (hR.heap.inj _ _ m h1 hk' hm hm')
    · rcases hF with hF | ⟨k', _, _, hm'⟩
      · exact hR.heap.frn m hF
      · exact (hR.heap.lt k' m hm').2
  have hA0 : TRel w (Own F0 (heapOf Bs) μ0) μ0 args0 vals := by
    rw [← hO0]
    have := hA
    rw [harg S.next, hρ] at this
    exact (renT_rel args0 vals).1 this
  refine (hcall F0 μ0 w vals hH0 hA0).mono ?_
  rintro ex w' ⟨v, μ1, x, H', nx', rfl, hext, hH', hs, rfl, rfl, rfl⟩
  -- the caller's state behind it
  obtain ⟨μ', hμ'⟩ := Classical.axiomOfChoice (r := fun (k : Nat) (y : Option Nat) => (∀ j, ρ j = k → y = μ1 j) ∧ ((∀ j, ρ j ≠ k) → y = μ k)) fun k => by
    by_cases h : ∃ j, ρ j = k
    · obtain ⟨j, rfl⟩ := h
      exact ⟨μ1 j, fun i hi => by rw [hinj _ _ hi], fun hn => absurd rfl (hn j)⟩
    · exact ⟨μ k, fun j hj => absurd ⟨j, hj⟩ h, fun _ => rfl⟩
  have hμin : ∀ j, μ' (ρ j) = μ1 j := fun j => (hμ' (ρ j)).1 j rfl
  have hμout : ∀ k, (∀ j, ρ j ≠ k) → μ' k = μ k := fun k hk => (hμ' k).2 hk
  have hμ1 : (fun k => μ' (ρ k)) = μ1 := funext hμin
  let H1 := updH S.heap (e.upd.map fun p => (ρ p.1, p.2.map (renB ρ)))
  have hH1in : ∀ j, H1 (ρ j) = (updH (heapOf Bs) e.upd j).map (renB ρ) := updH_map hinj (renB ρ) e.upd S.heap (heapOf Bs) hHj
  have hH1out : ∀ k, (∀ j, ρ j ≠ k) → H1 k = S.heap k := fun k hk => updH_out (fun B => B.map (renB ρ)) e.upd S.heap k hk
  have hO1 : Own C.F H1 μ' = Own F0 (updH (heapOf Bs) e.upd) μ1 := by
    have := hOwn H1 (updH (heapOf Bs) e.upd) μ' hH1in fun k hk => ⟨hH1out k hk, hμout k hk⟩
    rw [hμ1] at this
    exact this
  have hbound : ∀ j, j < Bs.length + e.cnt → ρ j < S.next + e.cnt := by
    intro j hj
    rcases Nat.lt_or_ge j e.blks.length with h | h
    · have : ρ j = e.blks[j] := by subst hρ; exact rho_old (List.getElem?_eq_getElem h)
      have := hblt _ (List.getElem_mem h)
      omega
    · have := hnew j h; omega
  have hextC : Ext C.F w (Own C.F S.heap μ) μ w' (Own C.F H1 μ') μ' := by
    rw [hO0, hO1]
    refine ⟨hext.os, hext.tape, hext.output, hext.size, hext.keep, hext.shape, fun k m hm => ?_, hext.owned, fun b hb hF => hext.frn b hb (.inl hF), hext.frz⟩
    by_cases hr : ∃ j, ρ j = k
    · obtain ⟨j, rfl⟩ := hr
      rw [hμin]
      exact hext.mu j m hm
    · rw [hμout k fun j hj => hr ⟨j, hj⟩]; exact hm
  have hrest : ∀ k, (∀ j, ρ j ≠ k) → (S.heap k).isSome = true → ∀ m, μ k = some m → F0 m := fun k hk hs m hm => .inr ⟨k, hk, hs, hm⟩
  refine ⟨v, μ', rfl, ⟨hR.defers, hR.size, hR.env.mono hextC, ⟨fun k B hk => ?_, fun k k' m hk hk' hm hm' => ?_, fun k m hm => ?_, fun k m hk hm => ?_, fun m hF => Nat.lt_of_lt_of_le (hR.heap.frn m hF) hext.size⟩, hR.ext.trans hextC⟩, ?_⟩
  · show k < S.next + e.cnt ∧ BRel w' (Own C.F H1 μ') μ' k B
    have hk : H1 k = some B := hk
    by_cases hr : ∃ j, ρ j = k
    · obtain ⟨j, rfl⟩ := hr
      rw [hH1in, Option.map_eq_some_iff] at hk
      obtain ⟨B0, hB0, rfl⟩ := hk
      obtain ⟨h1, h2⟩ := hH'.blk j B0 hB0
      refine ⟨hbound j h1, (renB_rel j B0).2 ?_⟩
      rw [hμ1, hO1]
      exact h2
    · have hr : ∀ j, ρ j ≠ k := fun j hj => hr ⟨j, hj⟩
      rw [hH1out k hr] at hk
      obtain ⟨h1, h2⟩ := hR.heap.blk k B hk
      exact ⟨by omega, h2.mono hextC (hμout k hr) fun m hm => hext.frn m (hR.heap.lt k m hm).2 (hrest k hr (by rw [hk]; rfl) m hm)⟩
  · have hk : (H1 k).isSome = true := hk
    have hk' : (H1 k').isSome = true := hk'
    by_cases hr : ∃ j, ρ j = k <;> by_cases hr' : ∃ j, ρ j = k'
    · obtain ⟨j, rfl⟩ := hr
      obtain ⟨j', rfl⟩ := hr'
      rw [hμin] at hm hm'
      rw [hH1in] at hk hk'
      rw [hH'.inj j j' m (by simpa using hk) (by simpa using hk') hm hm']
    · obtain ⟨j, rfl⟩ := hr
      have hr' : ∀ j, ρ j ≠ k' := fun j hj => hr' ⟨j, hj⟩
      rw [hμin] at hm
      rw [hμout k' hr'] at hm'
      rw [hH1in] at hk
      rw [hH1out k' hr'] at hk'
      exact absurd (hrest k' hr' hk' m hm') (hH'.dis j m (by simpa using hk) hm)
    · obtain ⟨j, rfl⟩ := hr'
      have hr : ∀ j, ρ j ≠ k := fun j hj => hr ⟨j, hj⟩
      rw [hμin] at hm'
      rw [hμout k hr] at hm
      rw [hH1in] at hk'
      rw [hH1out k hr] at hk
      exact absurd (hrest k hr hk m hm) (hH'.dis j m (by simpa using hk') hm')
    · have hr : ∀ j, ρ j ≠ k := fun j hj => hr ⟨j, hj⟩
      have hr' : ∀ j, ρ j ≠ k' := fun j hj => hr' ⟨j, hj⟩
      rw [hμout k hr] at hm
      rw [hμout k' hr'] at hm'
      rw [hH1out k hr] at hk
      rw [hH1out k' hr'] at hk'
      exact hR.heap.inj k k' m hk hk' hm hm'
  · show k < S.next + e.cnt ∧ m < w'.heap.size
    by_cases hr : ∃ j, ρ j = k
    · obtain ⟨j, rfl⟩ := hr
      rw [hμin] at hm
      have := hH'.lt j m hm
      exact ⟨hbound j this.1, this.2⟩
    · rw [hμout k fun j hj => hr ⟨j, hj⟩] at hm
      have := hR.heap.lt k m hm
      exact ⟨by omega, Nat.lt_of_lt_of_le this.2 hext.size⟩
  · have hk : (H1 k).isSome = true := hk
    by_cases hr : ∃ j, ρ j = k
    · obtain ⟨j, rfl⟩ := hr
      rw [hμin] at hm
      rw [hH1in] at hk
      exact fun hF => hH'.dis j m (by simpa using hk) hm (.inl hF)
    · have hr : ∀ j, ρ j ≠ k := fun j hj => hr ⟨j, hj⟩
      rw [hμout k hr] at hm
      rw [hH1out k hr] at hk
      exact hR.heap.dis k m hk hm
  · show SRel w' (Own C.F H1 μ') μ' (renS ρ e.res) v
    refine (renS_rel e.res v).2 ?_
    rw [hμ1, hO1]
    exact hs
end
end Go.Proofs.Ytndfcbcmeeemfaa.Abs
