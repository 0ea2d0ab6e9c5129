/-
  THE LIBRARY's SORT ON A ROW OF ITEMS OF OURS, AS A CALL WITH EFFECTS.
-/
import Derived.Test.YtadgjhbhghhbgaaHs2
namespace Go.Proofs.Ytadgjhbhghhbgaa.Abs
open Go Shelf RowKit Lib

theorem cmpI_lt {a b : Int} : cmpI a b < 0 ↔ a < b := by
  unfold cmpI
  by_cases h : a < b
  · simp [h]
  · by_cases h2 : a > b <;> simp [h, h2]
theorem cmpI_ne {a b : Int} : (cmpI a b != 0) = decide (a ≠ b) := by
  unfold cmpI
  by_cases h : a < b
  · have : a ≠ b := by omega
    simp [h, this]
  · by_cases h2 : a > b
    · have : a ≠ b := by omega
      simp [h, h2, this]
    · have : a = b := by omega
      subst this
      simp
/-- Of two items: which is less. -/
def lessI (x y : Item) : Bool := decide (x.k < y.k ∨ (x.k = y.k ∧ x.v < y.v))
theorem ltOf_ord (x y : Item) : ltOf ordI x y = lessI x y := by
  unfold ltOf lessI ordI
  rw [cmpI_ne]
  by_cases h : x.k = y.k
  · simp [h, cmpI_lt]
  · simp [h, cmpI_lt]
theorem ltOf_ordF : ltOf ordI = lessI := funext fun x => funext fun y => ltOf_ord x y
theorem swoOrd : Sort.SWO (ltOf ordI) where
  irrefl x := by rw [ltOf_ord]; simp [lessI]
  trans x y z h1 h2 := by rw [ltOf_ord] at *; simp [lessI] at *; omega
  ntrans x y z h1 h2 := by rw [ltOf_ord] at *; simp [lessI] at *; omega
/-- A row's items. -/
def arrI (s : Sl Item) : Array Item := (Array.range s.n).map s.at_
theorem arrI_size (s : Sl Item) : (arrI s).size = s.n := by simp [arrI]
theorem arrI_get {s : Sl Item} {i : Nat} (h : i < s.n) : (arrI s)[i]! = s.at_ i := by simp [arrI, h]
/-- .. sorted, as the library does it. -/
noncomputable def sortA (s : Sl Item) : Array Item := lock (Sort.pdq (ltOf ordI) (arrI s) 0 s.n (Lib.bitLen s.n) true true)
noncomputable def sortS (s : Sl Item) : Sl Item := ⟨s.n, fun i => (sortA s)[i]!⟩
theorem sortA_eq (s : Sl Item) : sortA s = Sort.pdq (ltOf ordI) (arrI s) 0 s.n (Lib.bitLen s.n) true true := lock_eq _
theorem sortA_facts (s : Sl Item) : Sort.PermIn 0 s.n (arrI s) (sortA s) ∧ Sort.SortedIn lessI 0 s.n (sortA s) := by
  rw [sortA_eq, ← ltOf_ordF]
  exact Sort.pdq_sorts (ltOf ordI) swoOrd (arrI s) 0 s.n (Lib.bitLen s.n) true true (Nat.zero_le _) (by rw [arrI_size]; exact Nat.le_refl _) (Or.inl rfl)
theorem sortA_size (s : Sl Item) : (sortA s).size = s.n := by
  rw [(sortA_facts s).1.1, arrI_size]

theorem itV_get {x : Item} {j : Nat} (hj : j < 2) {W : World} {O : Nat → Prop} : IRel W O (itE.f x j) ((itV x)[j]!) := by
  match j, hj with
  | 0, _ => exact ⟨rfl, rfl⟩
  | 1, _ => exact ⟨rfl, rfl⟩
theorem itV_eq {x : Item} {j : Nat} (hj : j < 2) {W : World} {O : Nat → Prop} {u : Value} (h : IRel W O (itE.f x j) u) : u = (itV x)[j]! := by
  match j, hj with
  | 0, _ => exact h.1
  | 1, _ => exact h.1
theorem flat_get {d : Array Item} {i j : Nat} (hi : i < d.size) (hj : j < 2) : (Sort.flatK itV 2 d)[i * 2 + j]! = (itV d[i]!)[j]! := by
  rw [Sort.get_flatK _ _ _ _ (by omega), show (i * 2 + j) / 2 = i by omega, show (i * 2 + j) % 2 = j by omega]

theorem own_upd {F : Nat → Prop} {μ : Nat → Option Nat} {H : Nat → Option ABlk} {b : Nat} {B0 B : ABlk} (hb : H b = some B0) : Own F (updH H [(b, some B)]) μ = Own F H μ := by
  funext x
  apply propext
  constructor
  · rintro (hF | ⟨k, hk, hx⟩)
    · exact .inl hF
    · rw [updH_one] at hk
      by_cases h : k = b
      · subst h
        exact .inr ⟨k, by rw [hb]; rfl, hx⟩
      · rw [if_neg h] at hk
        exact .inr ⟨k, hk, hx⟩
  · rintro (hF | ⟨k, hk, hx⟩)
    · exact .inl hF
    · refine .inr ⟨k, ?_, hx⟩
      rw [updH_one]
      by_cases h : k = b
      · rw [if_pos h]
        rfl
      · rw [if_neg h]
        exact hk
/-- A block in other words. -/
theorem HRel.retell {F : Nat → Prop} {w : World} {μ : Nat → Option Nat} {H : Nat → Option ABlk} {nx b : Nat} {B0 B : ABlk} (hH : HRel F w μ H nx) (hb : H b = some B0) (hB : BRel w (Own F H μ) μ b B0 → BRel w (Own F H μ) μ b B) : HRel F w μ (updH H [(b, some B)]) nx := by
  have hs : ∀ k, ((updH H [(b, some B)]) k).isSome = true → (H k).isSome = true := fun k hk => by
    rw [updH_one] at hk
    by_cases h : k = b
    · rw [h, hb]
      rfl
    · rwa [if_neg h] at hk
  refine ⟨fun k B' hk => ?_, fun k k' m hk hk' => hH.inj k k' m (hs k hk) (hs k' hk'), hH.lt, fun k m hk => hH.dis k m (hs k hk), hH.frn⟩
  rw [own_upd hb]
  rw [updH_one] at hk
  by_cases h : k = b
  · subst h
    rw [if_pos rfl] at hk
    cases hk
    have := hH.blk k B0 hb
    exact ⟨this.1, hB this.2⟩
  · rw [if_neg h] at hk
    exact hH.blk k B' hk

set_option maxHeartbeats 1000000 in
theorem sortCall (s : Sl Item) (app : Bool) (hs : s.n < 4611686018427387904) : ACall Try.prog 56 [.one (.osl 0 2 0 0 s.n app), .one (fnV 57 [])] (heapOf [bkR 54 itE s]) 1 fun x' H' n' => x' = .tup [] ∧ H' = updH (heapOf [bkR 54 itE s]) (updL 0 [some (bkR 54 itE (sortS s))]) ∧ n' = 1 + 0 := by
  intro F μ w vals hH hA
  obtain ⟨hl, hA⟩ := hA
  match vals, hl with
  | [v, g], _ =>
    have hv := hA 0 _ _ rfl rfl
    obtain ⟨fs, cs, rfl, l1, l2, _, _⟩ := hA 1 _ _ rfl rfl
    match fs, cs, l1, l2 with
    | [], [], _, _ =>
      rcases hv with ⟨h0, a, rfl⟩ | ⟨m, cap, hm, rfl, hc1, hc2, _⟩
      · have hsl : CRel w (Own F (heapOf [bkR 54 itE s]) μ) noneμ (.one (.imm (.sl 2 0 true fun _ _ => ivDef))) (.slice a 0 0) := .inl ⟨⟨a, rfl⟩, rfl⟩
        have hcon := sortNil true (fun _ _ => ivDef) (Own F (heapOf [bkR 54 itE s]) μ) w [.slice a 0 0, .func (.func 57) #[] #[]] (fun m hm => by
          rcases hm with hm | ⟨k, _, hk⟩
          · exact hH.frn m hm
          · exact (hH.lt k m hk).2) ⟨rfl, fun i x u hx hu => by
          match i, hx, hu with
          | 0, hx, hu => cases hx; cases hu; exact hsl
          | 1, hx, hu => cases hx; cases hu; exact ⟨[], [], rfl, rfl, rfl, fun i u hu => by simp at hu, fun i u hu => by simp at hu⟩⟩
        have hlen : (0 : Nat) = s.n := h0.symm
        refine Calls.mono hcon ?_
        rintro e w' ⟨v, rfl, hext, hr⟩
        have hall : ∀ b : Nat, b < w.heap.size → w'.heap[b]? = w.heap[b]? := fun b hb => by
          by_cases h : Own F (heapOf [bkR 54 itE s]) μ b
          · exact hext.frn b hb h
          · exact hext.keep b hb h
        have he : Ext F w (Own F (heapOf [bkR 54 itE s]) μ) μ w' (Own F (heapOf [bkR 54 itE s]) μ) μ :=
          ⟨hext.os, hext.tape, hext.output, hext.size, hext.keep, hext.shape, fun _ _ h => h, fun m hm => .inl hm, fun b hb _ => hall b hb, hext.frz, hext.drawn⟩
        have hH' : HRel F w' μ (heapOf [bkR 54 itE s]) 1 := ⟨fun k B hk => by
          obtain ⟨h1, h2⟩ := hH.blk k B hk
          exact ⟨h1, h2.mono he rfl fun m hm => hall m (hH.lt k m hm).2⟩, hH.inj, fun k m hm => ⟨(hH.lt k m hm).1, Nat.lt_of_lt_of_le (hH.lt k m hm).2 hext.size⟩, hH.dis, fun m hm => Nat.lt_of_lt_of_le (hH.frn m hm) hext.size⟩
        refine ⟨v, μ, .tup [], updH (heapOf [bkR 54 itE s]) (updL 0 [some (bkR 54 itE (sortS s))]), 1 + 0, rfl, ?_, hH'.retell (B := bkR 54 itE (sortS s)) rfl fun hb => ?_, ?_, rfl, rfl, rfl⟩
        · rw [show Own F (updH (heapOf [bkR 54 itE s]) (updL 0 [some (bkR 54 itE (sortS s))])) μ = Own F (heapOf [bkR 54 itE s]) μ from own_upd rfl]
          exact he
        · rcases hb with ⟨h1, h2⟩ | ⟨m, cur, h1, h2, h3, h4⟩
          · exact .inl ⟨h1, h2⟩
          · refine .inr ⟨m, cur, h1, h2, h3, fun i hi => ?_⟩
            have hi : i < s.n := hi
            omega
        · obtain ⟨vs, rfl, h1, _⟩ := hr
          match vs, h1 with
          | [], _ => exact ⟨[], rfl, rfl, fun i x u hx => by simp at hx⟩
      · rcases (hH.blk 0 _ rfl).2 with ⟨h1, _⟩ | ⟨m', cur, h1, h2, h3, h4⟩
        · rw [hm] at h1
          cases h1
        · obtain rfl : m' = m := by
            rw [hm] at h1
            exact (Option.some.inj h1).symm
          have hold : Sort.HoldsK itV 2 w m' (0 * 2 + 0) (arrI s) := fun t ht => by
            have ht : t < s.n * 2 := by simpa [arrI_size] using ht
            have hi : t / 2 < s.n := by omega
            have hj : t % 2 < 2 := by omega
            obtain ⟨u, hu1, hu2⟩ := h4 (t / 2) hi (t % 2) hj
            have hu1 : cur[t]? = some u := by
              rw [← hu1]
              congr 1
              show t = t / 2 * 2 + t % 2
              omega
            have hcell : (Sort.flatK itV 2 (arrI s))[t]! = u := by
              have e := flat_get (d := arrI s) (i := t / 2) (j := t % 2) (by rw [arrI_size]; exact hi) hj
              rw [show t / 2 * 2 + t % 2 = t by omega, arrI_get hi] at e
              rw [e]
              exact (itV_eq hj hu2).symm
            refine ⟨?_, ?_⟩
            · rw [hcell]
              unfold World.cell?
              rw [h2]
              simpa using hu1
            · unfold World.frozen?
              rw [h2]
              simp
          have eg : ∀ args w, (callFunc 57 args).run Try.prog w = .ok (.enter 57 args) w := enters_of Try.func57 (by kernel_rfl) rfl
          have hcon := AnyQ.slices_SortFunc_eq sortIt 2 Try.isAgg54 Try.sizeOf54 itV (fun _ => rfl) (fun x v hv => by simp [itV] at hv; rcases hv with rfl | rfl <;> rfl) ordI swoOrd 57 #[] m' (0 * 2 + 0) cap (arrI s) w eg (ordLays m' (0 * 2 + 0) (arrI s).size w) hold (hH.lt 0 m' hm).2 (by rw [arrI_size]; exact hs)
          rw [arrI_size, ← sortA_eq s] at hcon
          refine Calls.mono hcon ?_
          rintro e w' ⟨rfl, n, os, rfl⟩
          have hw1 : (Sort.putRowK itV 2 w m' (0 * 2 + 0) (sortA s)).heap[m']? = some (.cells (Sort.putCells id (0 * 2 + 0) (Sort.flatK itV 2 (sortA s)) cur) 54 (0, 0)) := by
            show (w.heap.modify m' _)[m']? = _
            rw [Array.getElem?_modify, if_pos rfl, h2]
            rfl
          have hmod : ∀ k : Nat, k ≠ m' → (Sort.putRowK itV 2 w m' (0 * 2 + 0) (sortA s)).heap[k]? = w.heap[k]? := fun k hk => by
            show (w.heap.modify m' _)[k]? = _
            rw [Array.getElem?_modify, if_neg fun e => hk e.symm]
          have hsz : (Sort.putRowK itV 2 w m' (0 * 2 + 0) (sortA s)).heap.size = w.heap.size := by
            show (w.heap.modify m' _).size = _
            simp
          have hcs : (Sort.putCells id (0 * 2 + 0) (Sort.flatK itV 2 (sortA s)) cur).size = cur.size := by simp [Sort.putCells]
          have hw := step_write' (w' := Sort.putRowK itV 2 w m' (0 * 2 + 0) (sortA s)) (nx := 1) hH (B := bkR 54 itE (sortS s)) rfl hm rfl rfl rfl hsz hmod (fun c t fz hc => by
            rw [h2] at hc
            simp only [Option.some.injEq, Obj.cells.injEq] at hc
            obtain ⟨rfl, rfl, rfl⟩ := hc
            exact ⟨_, hw1, hcs⟩) (fun h => absurd h2 (h _ _ _)) fun _ => .inr ⟨m', _, hm, hw1, by rw [hcs]; exact h3, fun i hi j hj => ?_⟩
          · obtain ⟨e1, k1⟩ := hw
            obtain ⟨e2, k2⟩ := k1.grown n os
            exact ⟨.tuple #[], μ, .tup [], updH (heapOf [bkR 54 itE s]) (updL 0 [some (bkR 54 itE (sortS s))]), 1 + 0, rfl, e1.trans e2, k2, ⟨[], rfl, rfl, fun i x u hx => by simp at hx⟩, rfl, rfl, rfl⟩
          · have hi : i < s.n := hi
            have hj : j < 2 := hj
            have h3 : s.n * 2 ≤ cur.size := h3
            refine ⟨(itV (sortA s)[i]!)[j]!, ?_, itV_get hj⟩
            have hlt : i * 2 + j < cur.size := by omega
            show (Sort.putCells id (0 * 2 + 0) (Sort.flatK itV 2 (sortA s)) cur)[i * 2 + j]? = _
            unfold Sort.putCells
            rw [Array.getElem?_mapIdx, Array.getElem?_eq_getElem hlt]
            simp only [Option.map_some]
            rw [if_pos ⟨by omega, by rw [Sort.size_flatK, sortA_size]; omega⟩, show i * 2 + j - (0 * 2 + 0) = i * 2 + j by omega, flat_get (by rw [sortA_size]; exact hi) hj]
            rfl
end Go.Proofs.Ytadgjhbhghhbgaa.Abs
