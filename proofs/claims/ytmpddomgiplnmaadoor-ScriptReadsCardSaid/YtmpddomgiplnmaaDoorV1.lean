/-
  LOOPS, JOINS AND ROUNDS OF ITERATORS FOR BODIES BY RECKONING: what must hold at an entry and at a round's end, as plain functions. No program in sight.
-/
import Derived.Test.YtmpddomgiplnmaaDoorV0
import Derived.Test.YtmpddomgiplnmaaDoorX9
namespace Go.Proofs.YtmpddomgiplnmaaDoor.Abs
open Go

/-- How a body is reckoned, and that this is right. -/
structure WEnv (P : Program) (T : Lays) where
  cf : Cfg
  good : Good P T
  hm : P.follows .mixedOrders = true
  tab : TabOk P cf.tab
  et : ETabOk P cf.et
structure BEnd (x y : ABlk) : Prop where
  le : BLe x y
theorem BEnd.eq {x y : ABlk} (h : x = y) : BEnd x y := ⟨BLe.of_eq h⟩

def sNext (ρ : Nat → Nat) (E' : Nat → SV) : List (Nat × SV) → Prop
  | [] => True
  | (k, x) :: l => SEnd (E' k) (renS ρ x) ∧ sNext ρ E' l
def sFix (ρ : Nat → Nat) (E' E : Nat → SV) : List Nat → Prop
  | [] => True
  | k :: l => SEnd (E' k) (renS ρ (E k)) ∧ sFix ρ E' E l
def bAt (ρ : Nat → Nat) (n : Nat) (H' : Nat → Option ABlk) (k : Nat) (B : ABlk) : Prop := match H' (ρ k) with
  | some B0 => Nat.blt k n = true ∧ BEnd B0 (renB ρ B)
  | none => False
def bNext (ρ : Nat → Nat) (n : Nat) (H' : Nat → Option ABlk) : List (Nat × ABlk) → Prop
  | [] => True
  | (k, B) :: l => bAt ρ n H' k B ∧ bNext ρ n H' l
def bFix (ρ : Nat → Nat) (n : Nat) (H' H : Nat → Option ABlk) : List Nat → Prop
  | [] => True
  | k :: l => (match H k with
    | some B => bAt ρ n H' k B
    | none => True) ∧ bFix ρ n H' H l
/-- The blocks below nx that are not told anew and not left. -/
def keepB (nx : Nat) (dr : List Nat) (hp : List (Nat × ABlk)) : List Nat := (List.range nx).filter fun k => !(memN dr k) && (match findB hp k with
  | some _ => false
  | none => true)
def heapM (nx : Nat) (dr : List Nat) (H : Nat → Option ABlk) (hp : List (Nat × ABlk)) : Nat → Option ABlk := fun k => match findB hp k with
  | some B => some B
  | none => bif Nat.blt k nx && !(memN dr k) then H k else none
def stM (n nx : Nat) (E : Nat → SV) (H : Nat → Option ABlk) (fs dr : List Nat) (l : List (Nat × SV)) (hp : List (Nat × ABlk)) : St := ⟨n, envX E fs l, heapM nx dr H hp, nx⟩
/-- Names by number, but for some. -/
def ovN : List (Nat × Nat) → Nat → Nat
  | [], k => k
  | (a, b) :: l, k => bif Nat.beq k a then b else ovN l k
def ovL (n : Nat) (ov : List (Nat × Nat)) : List Nat := (List.range n).map (ovN ov)
/-- A state tells what a head asks. -/
def nextP (K n nx0 : Nat) (E : Nat → SV) (H : Nat → Option ABlk) (fs dr : List Nat) (l : List (Nat × SV)) (hp : List (Nat × ABlk)) (ov : List (Nat × Nat)) : St → Prop
  | ⟨n', E', H', nx⟩ => (Nat.beq n' n && (nodupB (ovL nx0 ov) && ltB (ovL nx0 ov) nx && keptB (ovL nx0 ov) K)) = true ∧ sNext (rho (ovL nx0 ov) nx) E' l ∧ sFix (rho (ovL nx0 ov) nx) E' E fs ∧ bNext (rho (ovL nx0 ov) nx) nx0 H' hp ∧ bFix (rho (ovL nx0 ov) nx) nx0 H' H (keepB nx0 dr hp)

theorem sNext_all {ρ : Nat → Nat} {E' : Nat → SV} : ∀ {l : List (Nat × SV)}, sNext ρ E' l → allLe ρ E' l
  | [], _ => trivial
  | _ :: _, h => ⟨h.1.le, sNext_all h.2⟩
theorem sFix_all {ρ : Nat → Nat} {E' E : Nat → SV} : ∀ {l : List Nat}, sFix ρ E' E l → allF ρ E' E l
  | [], _ => trivial
  | _ :: _, h => ⟨h.1.le, sFix_all h.2⟩
theorem bAt_get {ρ : Nat → Nat} {n : Nat} {H' : Nat → Option ABlk} {k : Nat} {B : ABlk} (h : bAt ρ n H' k B) : Nat.blt k n = true ∧ ∃ B0, H' (ρ k) = some B0 ∧ BLe B0 (renB ρ B) := by
  unfold bAt at h
  split at h
  · rename_i B0 hb
    exact ⟨h.1, B0, hb, h.2.le⟩
  · exact h.elim
theorem bNext_all {ρ : Nat → Nat} {n : Nat} {H' : Nat → Option ABlk} : ∀ {l : List (Nat × ABlk)}, bNext ρ n H' l → allBLe ρ n H' l
  | [], _ => trivial
  | _ :: _, h => ⟨bAt_get h.1, bNext_all h.2⟩
theorem bFix_get {ρ : Nat → Nat} {n : Nat} {H' H : Nat → Option ABlk} : ∀ {l : List Nat}, bFix ρ n H' H l → ∀ k B, k ∈ l → H k = some B → Nat.blt k n = true ∧ ∃ B0, H' (ρ k) = some B0 ∧ BLe B0 (renB ρ B)
  | [], _, k, B, h, _ => by cases h
  | q :: l, h, k, B, hk, hB => by
    rcases List.mem_cons.1 hk with rfl | hk
    · have := h.1
      rw [hB] at this
      exact bAt_get this
    · exact bFix_get h.2 k B hk hB
theorem nextP_le {K n nx0 : Nat} {E : Nat → SV} {H : Nat → Option ABlk} {fs dr : List Nat} {l : List (Nat × SV)} {hp : List (Nat × ABlk)} {ov : List (Nat × Nat)} {S : St} (h : nextP K n nx0 E H fs dr l hp ov S) : LeR K (ovL nx0 ov) S (stM n nx0 E H fs dr l hp) := by
  obtain ⟨n', E', H', nx⟩ := S
  obtain ⟨h1, h2, h3, h4, h5⟩ := h
  simp only [Bool.and_eq_true] at h1
  obtain ⟨hn, h1⟩ := h1
  obtain rfl := Nat.eq_of_beq_eq_true hn
  have hlen : (ovL nx0 ov).length = nx0 := by simp [ovL]
  generalize ovL nx0 ov = L at *
  subst hlen
  refine ⟨rfl, rfl, h1.1.1, fun b hb => ?_, keptB_iff K h1.2, fun t => ?_, fun k B hk => ?_⟩
  · exact Nat.le_of_ble_eq_true (List.all_eq_true.1 h1.1.2 b hb)
  · show SLe (E' t) (renS (rho L nx) (envX E fs l t))
    unfold envX
    cases h : findE l t with
    | some x => exact allLe_get l (sNext_all h2) t x h
    | none =>
      cases hm : memN fs t with
      | true => exact allF_get fs (sFix_all h3) t hm
      | false => exact fun _ _ _ _ _ => trivial
  · have hk : heapM L.length dr H hp k = some B := hk
    show k < L.length ∧ ∃ B0, H' (rho L nx k) = some B0 ∧ BLe B0 (renB (rho L nx) B)
    unfold heapM at hk
    cases h : findB hp k with
    | some x =>
      rw [h] at hk
      obtain rfl : x = B := Option.some.inj hk
      exact allBLe_get hp (bNext_all h4) k x h
    | none =>
      rw [h] at hk
      simp only [] at hk
      cases hb : Nat.blt k L.length && !(memN dr k) with
      | false => rw [hb] at hk; cases hk
      | true =>
        rw [hb] at hk
        rw [Bool.and_eq_true] at hb
        obtain ⟨g1, g2⟩ := bFix_get h5 k B (by
          unfold keepB
          rw [List.mem_filter]
          refine ⟨List.mem_range.2 (Nat.le_of_ble_eq_true hb.1), ?_⟩
          rw [h, hb.2]
          rfl) hk
        exact ⟨Nat.le_of_ble_eq_true g1, g2⟩

/-- At an entry: the slots and blocks that are told, in the words of the head. -/
def sEnter (E : Nat → SV) : List (Nat × SV) → Prop
  | [] => True
  | (k, x) :: l => SEnd (E k) x ∧ sEnter E l
def bEnter (H : Nat → Option ABlk) : List (Nat × ABlk) → Prop
  | [] => True
  | (k, B) :: l => (match H k with
    | some B0 => BEnd B0 B
    | none => False) ∧ bEnter H l
theorem bEnter_get {H : Nat → Option ABlk} : ∀ {l : List (Nat × ABlk)}, bEnter H l → allBW H l
  | [], _ => trivial
  | (k, B) :: l, h => ⟨by
    have h1 := h.1
    split at h1
    · rename_i B0 hb
      exact ⟨B0, hb, h1.le⟩
    · exact h1.elim, bEnter_get h.2⟩
theorem sEnter_get {E : Nat → SV} : ∀ {l : List (Nat × SV)}, sEnter E l → allW E l
  | [], _ => trivial
  | _ :: _, h => ⟨h.1.le, sEnter_get h.2⟩
theorem enter_le {n nx : Nat} {E : Nat → SV} {H : Nat → Option ABlk} {fs dr : List Nat} {l : List (Nat × SV)} {hp : List (Nat × ABlk)} (hE : sEnter E l) (hH : bEnter H hp) : LeW ⟨n, E, H, nx⟩ (stM n nx E H fs dr l hp) := by
  have h0 := leW_mk (n := n) (nx := nx) (fs := fs) (bs := keepB nx dr hp) (sEnter_get hE) (bEnter_get hH)
  refine ⟨rfl, h0.env, fun k B hk => ?_, rfl⟩
  have hk : heapM nx dr H hp k = some B := hk
  unfold heapM at hk
  cases h : findB hp k with
  | some x =>
    rw [h] at hk
    obtain rfl : x = B := Option.some.inj hk
    exact allBW_get hp (bEnter_get hH) k x h
  | none =>
    rw [h] at hk
    simp only [] at hk
    cases hb : Nat.blt k nx && !(memN dr k) with
    | false => rw [hb] at hk; cases hk
    | true => rw [hb] at hk; exact ⟨B, hk, fun _ _ _ _ h => h⟩

section
variable {K : Nat} {P : Program} {T : Lays} {Q : Exit → St → Prop}

/-- How a round may end. -/
def loopW (K n nx : Nat) (E : Nat → SV) (H : Nat → Option ABlk) (fs dr : List Nat) {ι : Type} (l : ι → List (Nat × SV)) (hp : ι → List (Nat × ABlk)) (m : ι → Nat) (I : ι → Prop) (i : ι) (Q : Exit → St → Prop) : Exit → St → Prop
  | .normal, S => ∃ j ov, nextP K n nx E H fs dr (l j) (hp j) ov S ∧ m j < m i ∧ I j
  | e, S => Q e S

/-- A loop: at its head the slots and blocks that change (l, hp, by what counts the rounds); those of fs, and all other blocks but dr, as they were. -/
theorem AW_loopW (e : WEnv P T) {c : Code} {n nx : Nat} {E : Nat → SV} {H : Nat → Option ABlk} {ι : Type} (fs dr : List Nat) (l : ι → List (Nat × SV)) (hp : ι → List (Nat × ABlk)) (m : ι → Nat) (I : ι → Prop) (i : ι) (h0 : sEnter E (l i) ∧ bEnter H (hp i) ∧ I i)
    (round : ∀ j, I j → wpC K P T e.cf c (loopW K n nx E H fs dr l hp m I j Q) (stM n nx E H fs dr (l j) (hp j))) : AW K P (.loop c) Q ⟨n, E, H, nx⟩ := by
  intro C μ a w hR
  refine wpIn_loop_ghost (fun q a w => ∃ C1, C.Le C1 ∧ ∃ j μ, m j = q ∧ I j ∧ Rel C1 μ (stM n nx E H fs dr (l j) (hp j)) a w) (m i) ⟨C, .refl C, i, μ, rfl, h0.2.2, (enter_le h0.1 h0.2.1).rel hR⟩ ?_
  rintro q a' w' ⟨C1, hC, j, μ', rfl, hI, hR'⟩
  refine wpIn_ro hC.ro (wpIn_mono (wpC_sound e.good e.hm e.tab e.et c (round j hI) C1 μ' a' w' hR') ?_)
  rintro ex a2 w2 ⟨C2, hC2, μ2, S2, hR2, hq⟩
  cases ex with
  | normal =>
    obtain ⟨j', ov, hle, hlt, hI'⟩ := hq
    exact ⟨m j', hlt, C2, hC.trans hC2, j', _, rfl, hI', (nextP_le hle).rel hR2⟩
  | _ => exact ⟨C2, hC.trans hC2, μ2, S2, hR2, hq⟩

def joinW (K n nx : Nat) (E : Nat → SV) (H : Nat → Option ABlk) (fs dr : List Nat) {ι : Type} (l : ι → List (Nat × SV)) (hp : ι → List (Nat × ABlk)) (Q : Exit → St → Prop) : Exit → St → Prop
  | .normal, S => ∃ j ov, nextP K n nx E H fs dr (l j) (hp j) ov S
  | e, S => Q e S
/-- A piece of code by what it changes. -/
theorem AW_viaW (e : WEnv P T) {c : Code} {n nx : Nat} {E : Nat → SV} {H : Nat → Option ABlk} {ι : Type} (fs dr : List Nat) (l : ι → List (Nat × SV)) (hp : ι → List (Nat × ABlk)) (hq : ∀ j, Q .normal (stM n nx E H fs dr (l j) (hp j)))
    (h : wpC K P T e.cf c (joinW K n nx E H fs dr l hp Q) ⟨n, E, H, nx⟩) : AW K P c Q ⟨n, E, H, nx⟩ := by
  intro C μ a w hR
  refine wpIn_mono (wpC_sound e.good e.hm e.tab e.et c h C μ a w hR) ?_
  rintro ex a2 w2 ⟨C2, hC2, μ2, S2, hR2, hq2⟩
  cases ex with
  | normal =>
    obtain ⟨j, ov, hle⟩ := hq2
    exact ⟨C2, hC2, _, _, (nextP_le hle).rel hR2, hq j⟩
  | _ => exact ⟨C2, hC2, μ2, S2, hR2, hq2⟩
/-- A block by what it changes. -/
theorem AW_blockW (e : WEnv P T) {id : Nat} {c : Code} {n nx : Nat} {E : Nat → SV} {H : Nat → Option ABlk} {ι : Type} (fs dr : List Nat) (l : ι → List (Nat × SV)) (hp : ι → List (Nat × ABlk)) (hq : ∀ j, Q .normal (stM n nx E H fs dr (l j) (hp j)))
    (h : wpC K P T e.cf c (blkQ id (joinW K n nx E H fs dr l hp Q)) ⟨n, E, H, nx⟩) : AW K P (.block id c) Q ⟨n, E, H, nx⟩ := by
  intro C μ a w hR
  refine wpIn_mono (AW_block (wpC_sound e.good e.hm e.tab e.et c h) C μ a w hR) ?_
  rintro ex a2 w2 ⟨C2, hC2, μ2, S2, hR2, hq2⟩
  cases ex with
  | normal =>
    obtain ⟨j, ov, hle⟩ := hq2
    exact ⟨C2, hC2, _, _, (nextP_le hle).rel hR2, hq j⟩
  | _ => exact ⟨C2, hC2, μ2, S2, hR2, hq2⟩
/-- A cond whose ways go on alike. -/
theorem AW_condW (e : WEnv P T) {c : Operand} {x y : Code} {b : Bool} {n nx : Nat} {E : Nat → SV} {H : Nat → Option ABlk} {ι : Type} (fs dr : List Nat) (l : ι → List (Nat × SV)) (hp : ι → List (Nat × ABlk)) (hb : rdB (evS E c) = some b) (hq : ∀ j, Q .normal (stM n nx E H fs dr (l j) (hp j)))
    (h : (b = true → wpC K P T e.cf x (joinW K n nx E H fs dr l hp Q) ⟨n, E, H, nx⟩) ∧ (b = false → wpC K P T e.cf y (joinW K n nx E H fs dr l hp Q) ⟨n, E, H, nx⟩)) : AW K P (.cond c x y) Q ⟨n, E, H, nx⟩ := by
  intro C μ a w hR
  refine wpIn_mono (AW_cond (rdB_eq hb) (fun k => wpC_sound e.good e.hm e.tab e.et x (h.1 k)) (fun k => wpC_sound e.good e.hm e.tab e.et y (h.2 k)) C μ a w hR) ?_
  rintro ex a2 w2 ⟨C2, hC2, μ2, S2, hR2, hq2⟩
  cases ex with
  | normal =>
    obtain ⟨j, ov, hle⟩ := hq2
    exact ⟨C2, hC2, _, _, (nextP_le hle).rel hR2, hq j⟩
  | _ => exact ⟨C2, hC2, μ2, S2, hR2, hq2⟩
/-- Some slots and blocks in other words, all others as they were. -/
def envT (E : Nat → SV) (l : List (Nat × SV)) : Nat → SV := fun t => match findE l t with
  | some x => x
  | none => E t
def heapT (H : Nat → Option ABlk) (hp : List (Nat × ABlk)) : Nat → Option ABlk := fun k => match findB hp k with
  | some B => some B
  | none => H k
theorem AW_told {c : Code} {n nx : Nat} {E : Nat → SV} {H : Nat → Option ABlk} (l : List (Nat × SV)) (hp : List (Nat × ABlk)) (h0 : sEnter E l ∧ bEnter H hp) (h : AW K P c Q ⟨n, envT E l, heapT H hp, nx⟩) : AW K P c Q ⟨n, E, H, nx⟩ :=
  fun C μ a w hR => h C μ a w ((show LeW ⟨n, E, H, nx⟩ ⟨n, envT E l, heapT H hp, nx⟩ from ⟨rfl, fun t => by
    show SLe (E t) (envT E l t)
    unfold envT
    cases hf : findE l t with
    | some x => exact allW_get l (sEnter_get h0.1) t x hf
    | none => exact fun _ _ _ _ h => h, fun k B hk => by
    have hk : heapT H hp k = some B := hk
    show ∃ B0, H k = some B0 ∧ BLe B0 B
    unfold heapT at hk
    cases hf : findB hp k with
    | some x =>
      rw [hf] at hk
      obtain rfl : x = B := Option.some.inj hk
      exact allBW_get hp (bEnter_get h0.2) k x hf
    | none =>
      rw [hf] at hk
      exact ⟨B, hk, fun _ _ _ _ h => h⟩, rfl⟩).rel hR)
/-- On by reckoning. -/
theorem AW_go (e : WEnv P T) {c : Code} {S : St} (h : wpC K P T e.cf c Q S) : AW K P c Q S := wpC_sound e.good e.hm e.tab e.et c h
theorem pwalk (e : WEnv P T) {f : FuncId} {fn : Func} {c : Code} {args : List CV} {r : SV} (hf : P.funcs[f]? = some fn) (hb : fn.body = some c) (n : Nat) (hn : fn.ntmps = n) (hargs : Nat.ble args.length n = true)
    (h : wpC 0 P T e.cf c (bodyW T fn.results.toList (EndsW r)) ⟨n, initE args, noneH, 0⟩) : PCall P f args r := pcall_wp e.good e.hm e.cf e.tab e.et hf hb n hn hargs h
end
end Go.Proofs.YtmpddomgiplnmaaDoor.Abs
