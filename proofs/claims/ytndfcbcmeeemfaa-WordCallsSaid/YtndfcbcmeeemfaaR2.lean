/-
  REGIONS IN THE ORDER OF THE TEXT, with pure calls and calls that change memory; captured variables made immutable.
-/
import Derived.Test.YtndfcbcmeeemfaaR0
namespace Go.Proofs.Ytndfcbcmeeemfaa.Abs
open Go

/-- A block that was made just now, given up: its cells are data from the start. -/
def frzNew (H1 : Nat → Option ABlk) (nx : Nat) (x : SV) : Option (SV × Prop) :=
  match x with
  | .cv (.one (.own b 0 0 0)) => bif Nat.beq b nx then match H1 b with
    | some (.var _ cells) => match toIVs cells with
      | some xs => some (.cv (.one (.vptr xs.length fun q => xs.getD q ivDef)), True)
      | none => none
    | _ => none
    else none
  | .cv (.one (.osl b e r 0 len _)) => bif Nat.beq b nx then match H1 b with
    | some (.rows _ e' n cell) => bif Nat.beq e e' then some (.cv (.one (.imm (.sl e len false fun i q => cell (r + i) q))), r + len ≤ n) else none
    | _ => none
    else none
  | _ => none

theorem frzNew_rel {F : Nat → Prop} {w : World} {μ : Nat → Option Nat} {H1 : Nat → Option ABlk} {nx nx1 : Nat} (hH : HRel F w μ H1 nx1) {x y : SV} {q : Prop} {v : Value} (h : frzNew H1 nx x = some (y, q)) (hq : q) (hx : SRel w (Own F H1 μ) μ x v) :
    SRel w (Own F (updH H1 [(nx, none)]) μ) μ y v := by
  have hsub : ∀ m, Own F (updH H1 [(nx, none)]) μ m → Own F H1 μ m := own_sub fun k hk => by
    rw [updH_one] at hk
    split at hk
    · cases hk
    · exact hk
  have hno : (H1 nx).isSome = true → ∀ m, μ nx = some m → ¬ Own F (updH H1 [(nx, none)]) μ m := by
    rintro hs m hm (hF | ⟨k, hk, hkm⟩)
    · exact hH.dis nx m hs hm hF
    · rw [updH_one] at hk
      by_cases hkn : k = nx
      · rw [if_pos hkn] at hk; cases hk
      · rw [if_neg hkn] at hk
        exact hkn (hH.inj k nx m hk hs hkm hm)
  unfold frzNew at h
  split at h
  · rename_i b
    cases hb : Nat.beq b nx with
    | false => rw [hb] at h; simp at h
    | true =>
      rw [hb] at h
      simp only [cond_true] at h
      obtain rfl := Nat.eq_of_beq_eq_true hb
      split at h
      · rename_i ty cells hB
        split at h
        · rename_i xs hxs
          simp only [Option.some.injEq, Prod.mk.injEq] at h
          obtain ⟨rfl, _⟩ := h
          obtain ⟨m, hm, rfl⟩ := hx
          obtain ⟨m2, cur, hm2, hw, hl⟩ := (hH.blk b _ hB).2
          obtain rfl : m2 = m := by rw [hm] at hm2; exact (Option.some.inj hm2).symm
          refine ⟨m2, 0 * 0 + 0, rfl, hno (by rw [hB]; rfl) m2 hm, (hH.lt b m2 hm).2, fun j hj => ?_⟩
          have hlen := (toIVs_get cells xs hxs).1
          have hjl : j < cur.toList.length := by rw [hl.1]; omega
          obtain ⟨u, hu, hr⟩ := toIVs_rel hxs hl j hjl
          refine ⟨u, ?_, IRel.less hsub hr⟩
          simp only [World.cell?, hw]
          simpa using hu
        · cases h
      · cases h
  · rename_i b e r len app
    cases hb : Nat.beq b nx with
    | false => rw [hb] at h; simp at h
    | true =>
      rw [hb] at h
      simp only [cond_true] at h
      obtain rfl := Nat.eq_of_beq_eq_true hb
      split at h
      · rename_i ty e' n cell hB
        cases he : Nat.beq e e' with
        | false => rw [he] at h; simp at h
        | true =>
          rw [he] at h
          simp only [cond_true, Option.some.injEq, Prod.mk.injEq] at h
          obtain ⟨rfl, rfl⟩ := h
          obtain rfl := Nat.eq_of_beq_eq_true he
          rcases hx with ⟨rfl, hem⟩ | ⟨m, cap, hm, rfl, c1, c2, c3⟩
          · exact .inl ⟨hem, rfl⟩
          · refine .inr ⟨m, r * e + 0, cap, rfl, c1, c2, fun h => (by cases h), hno (by rw [hB]; rfl) m hm, (hH.lt b m hm).2, fun i hi j hj => ?_⟩
            rcases (hH.blk b _ hB).2 with ⟨hm', _⟩ | ⟨m2, cur, hm', hw, hsz, hcell⟩
            · rw [hm] at hm'; cases hm'
            obtain rfl : m2 = m := by rw [hm] at hm'; exact (Option.some.inj hm').symm
            obtain ⟨u, hu1, hu2⟩ := hcell (r + i) (by omega) j hj
            refine ⟨u, ?_, IRel.less hsub hu2⟩
            simp only [World.cell?, hw]
            rw [← hu1]
            simp only [Option.isSome_none, Bool.false_eq_true, if_false, Nat.add_zero]
            congr 1
            rw [Nat.add_mul]
      · cases h
  · cases h

def runEff (P : Program) (T : Lays) (orc : Tab) (et : ETab) (fz : List Nat) (ops : List Oper) (n : Nat) : Nat → Nat → (Nat → SV) → (Nat → Option ABlk) → Nat → Prop → List Oper → Option (St × Prop × List Oper)
  | 0, _, E, H, nx, p, l => some (⟨n, E, H, nx⟩, p, l)
  | _ + 1, _, E, H, nx, p, [] => some (⟨n, E, H, nx⟩, p, [])
  | k + 1, i, E, H, nx, p, o :: rest => match guardOf ops E o.guard with
    | none => some (⟨n, E, H, nx⟩, p, o :: rest)
    | some g => bif dstOk o.dst n then match stepV P T orc H i E o g with
      | some (x, vc) => match o.dst with
        | some d => runEff P T orc et fz ops n k (i + 1) (putE1 E d x) H nx (p ∧ vc) rest
        | none => runEff P T orc et fz ops n k (i + 1) E H nx (p ∧ vc) rest
      | none => match g, evalM T nx H E o.op with
        | none, some (x, U, vc) => match memN fz i with
          | true => match frzNew (updH H U) nx x with
            | some (y, q) => match o.dst with
              | some d => runEff P T orc et fz ops n k (i + 1) (putE1 E d y) (updH (updH H U) [(nx, none)]) (nx + 1) (p ∧ (vc ∧ q)) rest
              | none => runEff P T orc et fz ops n k (i + 1) E (updH (updH H U) [(nx, none)]) (nx + 1) (p ∧ (vc ∧ q)) rest
            | none => some (⟨n, E, H, nx⟩, p, o :: rest)
          | false => match o.dst with
            | some d => runEff P T orc et fz ops n k (i + 1) (putE1 E d x) (updH H U) (nx + 1) (p ∧ vc) rest
            | none => runEff P T orc et fz ops n k (i + 1) E (updH H U) (nx + 1) (p ∧ vc) rest
        | none, none => match o.op with
          | .call c => match callOf E c with
            | some (f, cvs, q) => match et f cvs H with
              | some e => match o.dst with
                | some d => runEff P T orc et fz ops n k (i + 1) (putE1 E d (renS (rho e.blks nx) e.res)) (updH H (e.upd.map fun p => (rho e.blks nx p.1, p.2.map (renB (rho e.blks nx))))) (nx + e.cnt) (p ∧ (q ∧ e.vc)) rest
                | none => runEff P T orc et fz ops n k (i + 1) E (updH H (e.upd.map fun p => (rho e.blks nx p.1, p.2.map (renB (rho e.blks nx))))) (nx + e.cnt) (p ∧ (q ∧ e.vc)) rest
              | none => some (⟨n, E, H, nx⟩, p, o :: rest)
            | none => some (⟨n, E, H, nx⟩, p, o :: rest)
          | _ => some (⟨n, E, H, nx⟩, p, o :: rest)
        | _, _ => some (⟨n, E, H, nx⟩, p, o :: rest)
      else some (⟨n, E, H, nx⟩, p, o :: rest)

section
variable {K : Nat} {P : Program} {T : Lays} {S : St} {Q : Exit → St → Prop}

theorem runEff_sound (G : Good P T) {ops : Array Oper} {orc : Tab} (hTab : TabOk P orc) {et : ETab} (hE : ETabOk P et) {fz : List Nat} {Q : Exit → St → Prop} {n : Nat} (hall : (ops.toList.all fun o => dstOk o.dst n) = true) :
    ∀ (k i : Nat) (l : List Oper) (E : Nat → SV) (H : Nat → Option ABlk) (nx : Nat) (S' : St) (p p' : Prop) (l' : List Oper), runEff P T orc et fz ops.toList n k i E H nx p l = some (S', p', l') → p' →
      (p → AL K P ops l' Q S' → AL K P ops l Q ⟨n, E, H, nx⟩) ∧ p := by
  intro k
  induction k with
  | zero => intro i l E H nx S' p p' l' h hp; simp only [runEff, Option.some.injEq, Prod.mk.injEq] at h; obtain ⟨rfl, rfl, rfl⟩ := h; exact ⟨fun _ h => h, hp⟩
  | succ k ih =>
    intro i l E H nx S' p p' l' h hp
    cases l with
    | nil => simp only [runEff, Option.some.injEq, Prod.mk.injEq] at h; obtain ⟨rfl, rfl, rfl⟩ := h; exact ⟨fun _ h => h, hp⟩
    | cons o rest =>
      have hall' : ∀ (j : Nat) o', ops[j]? = some o' → dstOk o'.dst n = true := by
        intro j o' hj
        rw [List.all_eq_true] at hall
        exact hall o' (List.mem_of_getElem? (show ops.toList[j]? = some o' by simpa using hj))
      simp only [runEff] at h
      split at h
      · simp only [Option.some.injEq, Prod.mk.injEq] at h; obtain ⟨rfl, rfl, rfl⟩ := h; exact ⟨fun _ h => h, hp⟩
      · rename_i g hg
        cases hdst : dstOk o.dst n with
        | false => rw [hdst] at h; simp only [cond_false, Option.some.injEq, Prod.mk.injEq] at h; obtain ⟨rfl, rfl, rfl⟩ := h; exact ⟨fun _ h => h, hp⟩
        | true =>
          rw [hdst] at h
          simp only [cond_true] at h
          split at h
          · rename_i x vc hV
            have fin : runEff P T orc et fz ops.toList n k (i + 1) (putE E o.dst x) H nx (p ∧ vc) rest = some (S', p', l') := by
              split at h
              · rename_i d hd; rw [hd]; exact h
              · rename_i hd; rw [hd]; exact h
            obtain ⟨h1, h2⟩ := ih (i + 1) rest (putE E o.dst x) H nx S' _ p' l' fin hp
            exact ⟨fun _ hQ C μ a w hR => step_wp (S := ⟨n, E, H, nx⟩) G hTab hall hR hg hdst hV h2.2 fun v w' hR' => h1 h2 hQ C μ _ w' hR', h2.1⟩
          · split at h
            · rename_i x U vc hM hS
              split at h
              · split at h
                · rename_i y q hfz
                  have fin : runEff P T orc et fz ops.toList n k (i + 1) (putE E o.dst y) (updH (updH H U) [(nx, none)]) (nx + 1) (p ∧ (vc ∧ q)) rest = some (S', p', l') := by
                    split at h
                    · rename_i d hd; rw [hd]; exact h
                    · rename_i hd; rw [hd]; exact h
                  obtain ⟨h1, h2⟩ := ih (i + 1) rest (putE E o.dst y) (updH (updH H U) [(nx, none)]) (nx + 1) S' _ p' l' fin hp
                  refine ⟨fun _ hQ C μ a w hR => ?_, h2.1⟩
                  have hw := guardOf_sound hR.env hg hR.size hall'
                  obtain ⟨v, w', μ', hrun, hext, hH', hs⟩ := evalM_sound G hR.heap hR.env hM h2.2.1
                  have hs' := frzNew_rel hH' hfz h2.2.2 hs
                  unfold wpList
                  rw [if_pos (by rw [hw]; rfl)]
                  refine .inl ?_
                  unfold Oper.wp
                  have hR1 := hR.step hext hH'
                  have hle : Le ⟨n, E, updH H U, nx + 1⟩ ⟨n, E, updH (updH H U) [(nx, none)], nx + 1⟩ := ⟨rfl, fun _ => .inr rfl, fun k => by
                    show updH (updH H U) [(nx, none)] k = none ∨ updH (updH H U) [(nx, none)] k = updH H U k
                    rw [updH_one]
                    split
                    · exact .inl rfl
                    · exact .inr rfl, Nat.le_refl _⟩
                  have hR' := (hle.rel hR1).put (d := o.dst) (x := y) (v := v) hs' hdst
                  rcases hrun with hrun | ⟨hrun, rfl⟩
                  · rw [hrun]; exact h1 h2 hQ C μ' _ w' hR'
                  · rw [hrun]; exact h1 h2 hQ C μ' _ w' hR'
                · simp only [Option.some.injEq, Prod.mk.injEq] at h; obtain ⟨rfl, rfl, rfl⟩ := h; exact ⟨fun _ h => h, hp⟩
              · have fin : runEff P T orc et fz ops.toList n k (i + 1) (putE E o.dst x) (updH H U) (nx + 1) (p ∧ vc) rest = some (S', p', l') := by
                  split at h
                  · rename_i d hd; rw [hd]; exact h
                  · rename_i hd; rw [hd]; exact h
                obtain ⟨h1, h2⟩ := ih (i + 1) rest (putE E o.dst x) (updH H U) (nx + 1) S' _ p' l' fin hp
                refine ⟨fun _ hQ C μ a w hR => ?_, h2.1⟩
                have hw := guardOf_sound hR.env hg hR.size hall'
                obtain ⟨v, w', μ', hrun, hext, hH', hs⟩ := evalM_sound G hR.heap hR.env hM h2.2
                unfold wpList
                rw [if_pos (by rw [hw]; rfl)]
                refine .inl ?_
                unfold Oper.wp
                have hR' := (hR.step hext hH').put (d := o.dst) (x := x) (v := v) hs hdst
                rcases hrun with hrun | ⟨hrun, rfl⟩
                · rw [hrun]; exact h1 h2 hQ C μ' _ w' hR'
                · rw [hrun]; exact h1 h2 hQ C μ' _ w' hR'
            · split at h
              · rename_i c ho
                split at h
                · rename_i f cvs q hc
                  split at h
                  · rename_i e he
                    have fin : runEff P T orc et fz ops.toList n k (i + 1) (putE E o.dst (renS (rho e.blks nx) e.res)) (updH H (e.upd.map fun p => (rho e.blks nx p.1, p.2.map (renB (rho e.blks nx))))) (nx + e.cnt) (p ∧ (q ∧ e.vc)) rest = some (S', p', l') := by
                      split at h
                      · rename_i d hd; rw [hd]; exact h
                      · rename_i hd; rw [hd]; exact h
                    obtain ⟨h1, h2⟩ := ih (i + 1) rest _ _ _ S' _ p' l' fin hp
                    refine ⟨fun _ hQ C μ a w hR => ?_, h2.1⟩
                    have hw := guardOf_sound hR.env hg hR.size hall'
                    obtain ⟨vals, hA, hrun⟩ := callOf_sound hR.env hc h2.2.1 (hE f cvs H e he h2.2.2).1 ho
                    unfold wpList
                    rw [if_pos (by rw [hw]; rfl)]
                    refine .inl ?_
                    unfold Oper.wp
                    rw [hrun]
                    refine (call_eff hE he h2.2.2 hR hA).mono ?_
                    rintro ex w' ⟨v, μ', rfl, hR', hs⟩
                    exact h1 h2 hQ C μ' _ w' (hR'.put (d := o.dst) hs hdst)
                  · simp only [Option.some.injEq, Prod.mk.injEq] at h; obtain ⟨rfl, rfl, rfl⟩ := h; exact ⟨fun _ h => h, hp⟩
                · simp only [Option.some.injEq, Prod.mk.injEq] at h; obtain ⟨rfl, rfl, rfl⟩ := h; exact ⟨fun _ h => h, hp⟩
              · simp only [Option.some.injEq, Prod.mk.injEq] at h; obtain ⟨rfl, rfl, rfl⟩ := h; exact ⟨fun _ h => h, hp⟩
            · simp only [Option.some.injEq, Prod.mk.injEq] at h; obtain ⟨rfl, rfl, rfl⟩ := h; exact ⟨fun _ h => h, hp⟩

/-- A whole region in the order of the text, calls with effects among it. -/
theorem AW_eff (G : Good P T) {id n nx : Nat} {E : Nat → SV} {H : Nat → Option ABlk} {ops : Array Oper} (orc : Tab) (hTab : TabOk P orc) (et : ETab) (hE : ETabOk P et) (fz : List Nat) {S' : St} {p : Prop} (hall : (ops.toList.all fun o => dstOk o.dst n) = true) (h : runEff P T orc et fz ops.toList n ops.toList.length 0 E H nx True ops.toList = some (S', p, [])) (hp : p) (hQ : Q .normal S') : AW K P (.region id ops false) Q ⟨n, E, H, nx⟩ :=
  AW_region ((runEff_sound G hTab hE hall _ 0 ops.toList E H nx S' True p [] h hp).1 trivial (AL_nil hQ))

/-! A variable that nobody writes any more. -/
def subA (b : Nat) (xs : List IV) : AV → AV
  | .own b' e i j => bif Nat.beq b' b then .vptr (xs.length - (i * e + j)) (fun q => xs.getD (i * e + j + q) ivDef) else .own b' e i j
  | .fn f nf first nc caps => .fn f nf (fun i => subA b xs (first i)) nc fun i => subA b xs (caps i)
  | x => x
def subC (b : Nat) (xs : List IV) : CV → CV
  | .one x => .one (subA b xs x)
  | .agg l => .agg (l.map (subA b xs))
def subS (b : Nat) (xs : List IV) : SV → SV
  | .cv c => .cv (subC b xs c)
  | .tup l => .tup (l.map (subC b xs))
  | .gd c s => .gd c (subS b xs s)
  | .undef => .undef
def subB (b : Nat) (xs : List IV) : ABlk → ABlk
  | .var ty cells => .var ty (cells.map (subA b xs))
  | B => B

def frzH (b : Nat) (xs : List IV) (H : Nat → Option ABlk) : Nat → Option ABlk := fun k => bif Nat.beq k b then none else (H k).map (subB b xs)

section
variable {w : World} {O O' : Nat → Prop} {μ : Nat → Option Nat} {b m : Nat} {xs : List IV}

/-- What it means for the block to be immutable cells. -/
def FrzAt (w : World) (O' : Nat → Prop) (m : Nat) (xs : List IV) : Prop := ¬ O' m ∧ m < w.heap.size ∧ ∀ q, q < xs.length → ∃ u, w.cell? ⟨m, q, none⟩ = some u ∧ IRel w O' (xs.getD q ivDef) u

theorem subA_rel (hO : ∀ x, O' x → O x) (hb : μ b = some m) (hz : FrzAt w O' m xs) : ∀ (x : AV) (v : Value), ARel w O μ x v → ARel w O' μ (subA b xs x) v
  | .own b' e i j, v, h => by
    obtain ⟨m', hm, rfl⟩ := h
    unfold subA
    cases hbb : Nat.beq b' b with
    | false => exact ⟨m', hm, rfl⟩
    | true =>
      obtain rfl := Nat.eq_of_beq_eq_true hbb
      obtain rfl : m' = m := by rw [hm] at hb; exact (Option.some.inj hb)
      exact ⟨m', i * e + j, rfl, hz.1, hz.2.1, fun q hq => hz.2.2 (i * e + j + q) (by omega)⟩
  | .fn f nf first nc caps, v, h => by
    obtain ⟨fs, cs, hv, h1, h2, h3, h4⟩ := h
    exact ⟨fs, cs, hv, h1, h2, fun i u hu => subA_rel hO hb hz (first i) u (h3 i u hu), fun i u hu => subA_rel hO hb hz (caps i) u (h4 i u hu)⟩
  | .imm x, v, h => IRel.less hO h
  | .osl b' e r j len app, v, h => (h : ARel w O μ (.osl b' e r j len app) v).mono (ext_sub (F := fun _ => False) (w := w) (μ := μ) hO)
  | .omp b', v, h => h
  | .vptr n c, v, h => (h : ARel w O μ (.vptr n c) v).mono (ext_sub (F := fun _ => False) (w := w) (μ := μ) hO)

theorem subL_rel (hO : ∀ x, O' x → O x) (hb : μ b = some m) (hz : FrzAt w O' m xs) {l : List AV} {cs : List Value} (h : LRel w O μ l cs) : LRel w O' μ (l.map (subA b xs)) cs := by
  refine ⟨by simpa using h.1, fun i x u hx hu => ?_⟩
  rw [List.getElem?_map, Option.map_eq_some_iff] at hx
  obtain ⟨y, hy, rfl⟩ := hx
  exact subA_rel hO hb hz y u (h.2 i y u hy hu)

theorem subC_rel (hO : ∀ x, O' x → O x) (hb : μ b = some m) (hz : FrzAt w O' m xs) {x : CV} {v : Value} (h : CRel w O μ x v) : CRel w O' μ (subC b xs x) v := by
  cases x with
  | one x => exact subA_rel hO hb hz x v h
  | agg l => obtain ⟨cs, hv, hl⟩ := h; exact ⟨cs, hv, subL_rel hO hb hz hl⟩

theorem subS_rel (hO : ∀ x, O' x → O x) (hb : μ b = some m) (hz : FrzAt w O' m xs) : ∀ (x : SV) (v : Value), SRel w O μ x v → SRel w O' μ (subS b xs x) v
  | .undef, _, _ => trivial
  | .cv c, v, h => subC_rel hO hb hz h
  | .tup l, v, h => by
    obtain ⟨vs, hv, h1, h2⟩ := h
    refine ⟨vs, hv, by simpa using h1, fun i x u hx hu => ?_⟩
    rw [List.getElem?_map, Option.map_eq_some_iff] at hx
    obtain ⟨y, hy, rfl⟩ := hx
    exact subC_rel hO hb hz (h2 i y u hy hu)
  | .gd c s, v, h => by
    unfold subS SRel at *
    split
    · rename_i hc; rw [if_pos hc] at h; exact subS_rel hO hb hz s v h
    · rename_i hc; rw [if_neg hc] at h; exact h

theorem subB_rel (hO : ∀ x, O' x → O x) (hb : μ b = some m) (hz : FrzAt w O' m xs) {k : Nat} {B : ABlk} (h : BRel w O μ k B) : BRel w O' μ k (subB b xs B) := by
  cases B with
  | var ty cells =>
    obtain ⟨m', cur, h1, h2, h3⟩ := h
    exact ⟨m', cur, h1, h2, subL_rel hO hb hz h3⟩
  | rows ty e n cell => exact h.mono (ext_sub (F := fun _ => False) (w := w) (μ := μ) hO) rfl fun _ _ => rfl
  | mp ka kks va vn dom val => exact h.mono (ext_sub (F := fun _ => False) (w := w) (μ := μ) hO) rfl fun _ _ => rfl
end

/-- A variable's block is given up: its cells are data from here on. -/
theorem AW_freeze (b : Nat) {c : Code} {n nx : Nat} {E : Nat → SV} {H : Nat → Option ABlk} {ty : TypeId} {cells : List AV} {xs : List IV} (hb : H b = some (.var ty cells)) (hx : toIVs cells = some xs)
    (h : AW K P c Q ⟨n, fun t => subS b xs (E t), frzH b xs H, nx⟩) : AW K P c Q ⟨n, E, H, nx⟩ := by
  intro C μ a w hR
  refine h C μ a w ?_
  obtain ⟨m, cur, hm, hw, hl⟩ := (hR.heap.blk b _ hb).2
  have hsome : ∀ k, (frzH b xs H k).isSome = true → k ≠ b ∧ (H k).isSome = true := by
    intro k hk
    unfold frzH at hk
    cases hbk : Nat.beq k b with
    | true => rw [hbk] at hk; simp at hk
    | false =>
      rw [hbk] at hk
      exact ⟨fun e => by rw [e] at hbk; simp at hbk, by simpa using hk⟩
  have hsub : ∀ x, Own C.F (frzH b xs H) μ x → Own C.F H μ x := own_sub fun k hk => (hsome k hk).2
  have hno : ¬ Own C.F (frzH b xs H) μ m := by
    rintro (hF | ⟨k, hk, hkm⟩)
    · exact hR.heap.dis b m (by show (H b).isSome = true; rw [hb]; rfl) hm hF
    · have := hsome k hk
      exact this.1 (hR.heap.inj k b m this.2 (by show (H b).isSome = true; rw [hb]; rfl) hkm hm)
  have hz : FrzAt w (Own C.F (frzH b xs H) μ) m xs := by
    refine ⟨hno, (hR.heap.lt b m hm).2, fun q hq => ?_⟩
    have hlen := (toIVs_get cells xs hx).1
    have hql : q < cur.toList.length := by rw [hl.1]; omega
    obtain ⟨u, hu, hr⟩ := toIVs_rel hx hl q hql
    refine ⟨u, ?_, IRel.less hsub hr⟩
    simp only [World.cell?, hw]
    simpa using hu
  have hext : Ext C.F w (Own C.F H μ) μ w (Own C.F (frzH b xs H) μ) μ := ext_sub hsub
  refine ⟨hR.defers, hR.size, fun t => subS_rel hsub hm hz _ _ (hR.env t), ⟨fun k B hk => ?_, fun k k' m hk hk' => hR.heap.inj k k' m (hsome k hk).2 (hsome k' hk').2, hR.heap.lt, fun k m hk => hR.heap.dis k m (hsome k hk).2, hR.heap.frn⟩, hR.ext.trans hext⟩
  have hk : frzH b xs H k = some B := hk
  unfold frzH at hk
  cases hbk : Nat.beq k b with
  | true => rw [hbk] at hk; simp at hk
  | false =>
    rw [hbk] at hk
    simp only [cond_false, Option.map_eq_some_iff] at hk
    obtain ⟨B0, hB0, rfl⟩ := hk
    obtain ⟨h1, h2⟩ := hR.heap.blk k B0 hB0
    exact ⟨h1, subB_rel hsub hm hz h2⟩
end
end Go.Proofs.Ytndfcbcmeeemfaa.Abs
