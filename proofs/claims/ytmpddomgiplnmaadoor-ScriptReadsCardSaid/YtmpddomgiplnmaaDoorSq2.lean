/-
  PRINTED AND PARSED, PLAINLY: what is cut, what is split, what a number's digits are worth. No program in sight.
-/
import Derived.Test.YtmpddomgiplnmaaDoorS8
namespace Go.Proofs.YtmpddomgiplnmaaDoor.Abs
open Go Go.Lib

theorem mem_toL_append {x : UInt8} {a b : ByteArray} : x ∈ toL (a ++ b) ↔ x ∈ toL a ∨ x ∈ toL b := by rw [toL_append, List.mem_append]
/-! ### Cut -/
theorem cut_hit {s : ByteArray} {k : UInt8} (h : cutB s k = true) : toL s = toL (cutA s k) ++ k :: toL (cutZ s k) ∧ k ∉ toL (cutA s k) := by
  have h0 : ixB s k.toNat ≥ 0 := of_decide_eq_true h
  unfold cutA cutZ
  rw [decide_eq_true h0, cond_true, cond_true]
  obtain ⟨i, hi⟩ := Int.eq_ofNat_of_zero_le h0
  have hi2 := hi
  rw [ixB_eq] at hi2
  obtain ⟨g1, g2, g3⟩ := ib_hit k (toL s) i hi2
  rw [hi]
  have e1 : ((i : Int)).toNat = i := by omega
  have e2 : ((i : Int) + 1).toNat = i + 1 := by omega
  rw [e1, e2, toL_behind, toL_extract, List.drop_zero]
  exact ⟨g1, g2⟩
theorem cut_miss {s : ByteArray} {k : UInt8} (h : cutB s k = false) : cutA s k = s ∧ k ∉ toL s := by
  have h0 : ¬ ixB s k.toNat ≥ 0 := of_decide_eq_false h
  unfold cutA
  rw [decide_eq_false h0]
  refine ⟨rfl, (ib_miss k (toL s)).1 ?_⟩
  rw [← ixB_eq]
  omega
theorem app_inj {α : Type} [DecidableEq α] {k : α} : ∀ {a b c d : List α}, k ∉ a → k ∉ c → a ++ k :: b = c ++ k :: d → a = c ∧ b = d
  | [], b, [], d, _, _, h => by simpa using h
  | [], b, y :: c, d, _, hc, h => by
    simp only [List.nil_append, List.cons_append, List.cons.injEq] at h
    exact absurd (by simp [h.1]) hc
  | x :: a, b, [], d, ha, _, h => by
    simp only [List.nil_append, List.cons_append, List.cons.injEq] at h
    exact absurd (by simp [h.1]) ha
  | x :: a, b, y :: c, d, ha, hc, h => by
    simp only [List.cons_append, List.cons.injEq] at h
    rw [List.mem_cons, not_or] at ha hc
    obtain ⟨g1, g2⟩ := app_inj ha.2 hc.2 h.2
    exact ⟨by rw [h.1, g1], g2⟩
theorem cut_of {s : ByteArray} {k : UInt8} {a b : List UInt8} (h : toL s = a ++ k :: b) (ha : k ∉ a) : cutB s k = true ∧ toL (cutA s k) = a ∧ toL (cutZ s k) = b := by
  cases hb : cutB s k with
  | false =>
    have := (cut_miss hb).2
    rw [h] at this
    simp at this
  | true =>
    obtain ⟨g1, g2⟩ := cut_hit hb
    rw [h] at g1
    obtain ⟨e1, e2⟩ := app_inj ha g2 g1
    exact ⟨rfl, e1.symm, e2.symm⟩
theorem toL_nil {s : ByteArray} : s = ⟨#[]⟩ ↔ toL s = [] := ⟨fun h => by rw [h], fun h => toL_inj h⟩
/-! ### Split -/
theorem rest_split (s : ByteArray) (k : UInt8) : ∀ i, i ≤ cntB s k → splitL k (toL (restS s k i)) = (splitL k (toL s)).drop i
  | 0, _ => rfl
  | i + 1, h => by
    have ih := rest_split s k i (by omega)
    have hc := rest_cnt s k i (by omega)
    have h0 : 0 ≤ ixB (restS s k i) k.toNat := (ix_cnt _ k).2 (by omega)
    obtain ⟨j, hj⟩ := Int.eq_ofNat_of_zero_le h0
    have hj2 := hj
    rw [ixB_eq] at hj2
    obtain ⟨g1, g2, g3⟩ := ib_hit k _ j hj2
    have e : splitL k (toL (restS s k i)) = (toL (restS s k i)).take j :: splitL k ((toL (restS s k i)).drop (j + 1)) := by
      rw [← splitL_hit k _ _ g2, ← g1]
    rw [restS, toL_behind, hj]
    have e2 : ((j : Int) + 1).toNat = j + 1 := by omega
    rw [e2]
    rw [e] at ih
    have := congrArg List.tail ih
    rw [List.tail_cons, List.tail_drop] at this
    exact this
theorem split_n (s : ByteArray) (k : UInt8) : (splitS s k).n = (splitL k (toL s)).length := by
  rw [splitL_len, ← cntB_eq]
  rfl
theorem split_at (s : ByteArray) (k : UInt8) (i : Nat) (hi : i < (splitS s k).n) : (splitL k (toL s))[i]? = some (toL ((splitS s k).at_ i)) := by
  have hi : i < cntB s k + 1 := hi
  have h := rest_split s k i (by omega)
  have hc := rest_cnt s k i (by omega)
  have e : (splitL k (toL s))[i]? = (splitL k (toL (restS s k i)))[0]? := by rw [h, List.getElem?_drop, Nat.add_zero]
  rw [e]
  show _ = some (toL (partS s k i))
  unfold partS
  rcases Nat.lt_or_ge i (cntB s k) with h1 | h1
  · have h0 : 0 ≤ ixB (restS s k i) k.toNat := (ix_cnt _ k).2 (by omega)
    obtain ⟨j, hj⟩ := Int.eq_ofNat_of_zero_le h0
    have hj2 := hj
    rw [ixB_eq] at hj2
    obtain ⟨g1, g2, g3⟩ := ib_hit k _ j hj2
    rw [blt_t h1, cond_true, hj, toL_extract, List.drop_zero]
    have e2 : ((j : Int)).toNat = j := by omega
    rw [e2]
    have e3 : splitL k (toL (restS s k i)) = (toL (restS s k i)).take j :: splitL k ((toL (restS s k i)).drop (j + 1)) := by
      rw [← splitL_hit k _ _ g2, ← g1]
    rw [e3]
    rfl
  · have h0 : k ∉ toL (restS s k i) := by
      rw [← List.count_eq_zero, ← cntB_eq]
      omega
    rw [blt_f h1, cond_false, splitL_miss k _ h0]
    rfl
/-! ### Numbers -/
theorem toL_one (b : UInt8) : toL ⟨#[b]⟩ = [b] := rfl
theorem dg_val (n : Nat) : toL (dg n) = [UInt8.ofNat (48 + n % 10)] := by
  have e : IntKind.u8.wrap (IntKind.i64.wrap (48 + (n : Int).tmod 10)) = ((48 + n % 10 : Nat) : Int) := by
    have e1 : (n : Int).tmod 10 = ((n % 10 : Nat) : Int) := rfl
    rw [e1, IntKind.wrap_i64, IntKind.wrap_u8]
    omega
  unfold dg
  rw [e]
  rfl
theorem dg_byte (n : Nat) : (UInt8.ofNat (48 + n % 10)).toNat = 48 + n % 10 := by
  rw [UInt8.toNat_ofNat']
  omega
theorem digs_mem : ∀ (n : Nat) (x : UInt8), x ∈ toL (digs n) → 48 ≤ x.toNat ∧ x.toNat ≤ 57 := by
  intro n
  induction n using Nat.strongRecOn with
  | _ n ih =>
    intro x hx
    unfold digs at hx
    have hd : ∀ x, x ∈ toL (dg n) → 48 ≤ x.toNat ∧ x.toNat ≤ 57 := fun x hx => by
      rw [dg_val, List.mem_singleton] at hx
      rw [hx, dg_byte]
      omega
    split at hx
    · exact hd x hx
    · rcases mem_toL_append.1 hx with hx | hx
      · exact ih (n / 10) (by omega) x hx
      · exact hd x hx
theorem digs_ne (n : Nat) : toL (digs n) ≠ [] := by
  unfold digs
  split
  · rw [dg_val]; simp
  · rw [toL_append, dg_val]; simp
theorem byteAt_eq (t : ByteArray) (i : Nat) (x : UInt8) (h : (toL t)[i]? = some x) : byteAt t i = x.toNat := by
  unfold byteAt
  have : t.data[i]? = some x := by rw [← Array.getElem?_toList]; exact h
  rw [Array.getD_eq_getD_getElem?, this]
  rfl
theorem nf_congr {a b : ByteArray} : ∀ i, i ≤ a.size → (∀ q, q < i → byteAt a q = byteAt b q) → nf a i = nf b i
  | 0, _, _ => rfl
  | i + 1, hi, h => by rw [nf, nf, nf_congr i (by omega) (fun q hq => h q (by omega)), h i (by omega)]
theorem nf_digs : ∀ (n : Nat), n < 1000000000000 → nf (digs n) (digs n).size = n := by
  intro n
  induction n using Nat.strongRecOn with
  | _ n ih =>
    intro hn
    have hd : byteAt (dg n) 0 = 48 + n % 10 := by
      rw [byteAt_eq (dg n) 0 _ (by rw [dg_val]; rfl), dg_byte]
      omega
    by_cases h : n < 10
    · have e : digs n = dg n := by unfold digs; rw [if_pos h]
      rw [e, dg_size]
      show IntKind.i64.wrap (IntKind.i64.wrap (IntKind.i64.wrap (10 * 0) + IntKind.i64.wrap (byteAt (dg n) 0)) - 48) = n
      rw [hd]
      simp only [IntKind.wrap_i64]
      omega
    · have e : digs n = digs (n / 10) ++ dg n := by rw [digs.eq_1 n, if_neg h]
      have e2 : (digs n).size = (digs (n / 10)).size + 1 := by rw [e, ByteArray.size_append, dg_size]
      have hl : ∀ q, q < (digs (n / 10)).size → byteAt (digs n) q = byteAt (digs (n / 10)) q := fun q hq => by
        obtain ⟨x, hx⟩ : ∃ x, (toL (digs (n / 10)))[q]? = some x := ⟨_, List.getElem?_eq_getElem (by rw [toL_len]; exact hq)⟩
        rw [byteAt_eq _ q x hx, byteAt_eq _ q x (by rw [e, toL_append, List.getElem?_append_left (by rw [toL_len]; exact hq)]; exact hx)]
      have hlast : byteAt (digs n) (digs (n / 10)).size = 48 + n % 10 := by
        rw [byteAt_eq _ _ (UInt8.ofNat (48 + n % 10)) (by rw [e, toL_append, List.getElem?_append_right (by rw [toL_len]; exact Nat.le_refl _), toL_len, Nat.sub_self, dg_val]; rfl), dg_byte]
        omega
      rw [e2, nf, nf_congr _ (by omega) hl, ih (n / 10) (by omega) (by omega), hlast]
      simp only [IntKind.wrap_i64]
      omega
theorem numF_wrF {n : Int} (h1 : -1073741824 ≤ n) (h2 : n ≤ 1073741824) : numF (wrF n) = n := by
  unfold wrF
  rcases Int.lt_or_le n 0 with hn | hn
  · rw [decide_eq_true hn, cond_true]
    have hp : preB (⟨#[45]⟩ ++ digs (-n).toNat) 45 = true := by
      unfold preB
      rw [decide_eq_true (by rw [ByteArray.size_append]; show ((1 + _ : Nat) : Int) ≥ 1; omega), cond_true]
      refine sEq_iff.2 (toL_inj ?_)
      rw [toL_extract, toL_append]
      rfl
    have hc : cpA (⟨#[45]⟩ ++ digs (-n).toNat) 45 = digs (-n).toNat := by
      unfold cpA
      rw [hp, cond_true]
      refine toL_inj ?_
      rw [toL_behind, toL_append]
      rfl
    unfold numF sgn
    rw [hp, hc]
    have := digs_size 9 (-n).toNat (by omega)
    rw [decide_eq_false (by omega), cond_false, nf_digs _ (by omega), cond_true, IntKind.wrap_i64]
    omega
  · rw [decide_eq_false (by omega), cond_false]
    have hp : preB (digs n.toNat) 45 = false := by
      cases h : preB (digs n.toNat) 45 with
      | false => rfl
      | true =>
        have h := (band_t h).2
        have h := congrArg toL (sEq_iff.1 h)
        rw [toL_extract] at h
        cases hd : toL (digs n.toNat) with
        | nil => exact absurd hd (digs_ne _)
        | cons x l =>
          have := digs_mem n.toNat x (by rw [hd]; simp)
          rw [hd] at h
          simp only [List.take_succ_cons, List.take_zero, List.drop_zero, toL_one, List.cons.injEq, and_true] at h
          rw [h] at this
          exact absurd this.1 (by decide)
    have hc : cpA (digs n.toNat) 45 = digs n.toNat := by
      unfold cpA
      rw [hp, cond_false]
    unfold numF sgn
    rw [hp, hc]
    have := digs_size 9 n.toNat (by omega)
    rw [decide_eq_false (by omega), cond_false, nf_digs _ (by omega), cond_false, IntKind.wrap_i64]
    omega
theorem wrF_mem {n : Int} {x : UInt8} (h : x ∈ toL (wrF n)) : x.toNat = 45 ∨ (48 ≤ x.toNat ∧ x.toNat ≤ 57) := by
  unfold wrF at h
  cases hd : decide (n < 0) with
  | true =>
    rw [hd, cond_true] at h
    rcases mem_toL_append.1 h with h | h
    · rw [toL_one, List.mem_singleton] at h
      exact .inl (by rw [h]; rfl)
    · exact .inr (digs_mem _ x h)
  | false =>
    rw [hd, cond_false] at h
    exact .inr (digs_mem _ x h)
/-! ### Lines -/
/-- A line without its end, as a list. -/
def rowL (w : ByteArray) (s : Sl Int) : List UInt8 := toL w ++ (List.range s.n).flatMap fun i => 32 :: toL (wrF (s.at_ i))
theorem linF_toL (w : ByteArray) (s : Sl Int) : ∀ i, toL (linF w s i) = toL w ++ (List.range i).flatMap fun i => 32 :: toL (wrF (s.at_ i))
  | 0 => by simp [linF]
  | i + 1 => by
    rw [linF, toL_append, toL_append, linF_toL w s i, List.range_succ, List.flatMap_append, toL_one]
    simp
theorem lineF_toL (w : ByteArray) (s : Sl Int) : toL (lineF w s) = rowL w s ++ [10] := by
  rw [lineF, toL_append, linF_toL]
  rfl
theorem flat_split (ws : List (List UInt8)) : ∀ (w : List UInt8), (32 : UInt8) ∉ w → (∀ x ∈ ws, (32 : UInt8) ∉ x) → splitL 32 (w ++ ws.flatMap fun x => 32 :: x) = w :: ws := by
  induction ws with
  | nil => intro w hw _; simp [splitL_miss 32 w hw]
  | cons x l ih =>
    intro w hw h
    rw [List.flatMap_cons, List.cons_append, splitL_hit 32 w _ hw, ih x (h x (by simp)) fun y hy => h y (by simp [hy])]
theorem rowL_split (w : ByteArray) (s : Sl Int) (hw : (32 : UInt8) ∉ toL w) : splitL 32 (rowL w s) = toL w :: (List.range s.n).map fun i => toL (wrF (s.at_ i)) := by
  have := flat_split ((List.range s.n).map fun i => toL (wrF (s.at_ i))) (toL w) hw (fun x hx => by
    obtain ⟨i, _, rfl⟩ := List.mem_map.1 hx
    intro hm
    have := wrF_mem hm
    have e : (32 : UInt8).toNat = 32 := rfl
    omega)
  rw [List.flatMap_map] at this
  exact this
theorem rowL_nl (w : ByteArray) (s : Sl Int) (hw : (10 : UInt8) ∉ toL w) : (10 : UInt8) ∉ rowL w s := by
  unfold rowL
  rw [List.mem_append, not_or]
  refine ⟨hw, fun h => ?_⟩
  obtain ⟨i, _, hi⟩ := List.mem_flatMap.1 h
  rcases List.mem_cons.1 hi with h | h
  · exact absurd h (by decide)
  · have := wrF_mem h
    have e : (10 : UInt8).toNat = 10 := rfl
    omega
theorem rowL_congr {w : ByteArray} {a b : Sl Int} (hn : a.n = b.n) (h : ∀ i, i < a.n → a.at_ i = b.at_ i) : rowL w a = rowL w b := by
  unfold rowL
  rw [← hn]
  congr 1
  have : ∀ l : List Nat, (∀ i ∈ l, i < a.n) → (l.flatMap fun i => 32 :: toL (wrF (a.at_ i))) = l.flatMap fun i => 32 :: toL (wrF (b.at_ i)) := by
    intro l
    induction l with
    | nil => intro _; rfl
    | cons x l ih =>
      intro hl
      rw [List.flatMap_cons, List.flatMap_cons, ih fun i hi => hl i (by simp [hi]), h x (hl x (by simp))]
  exact this _ fun i hi => List.mem_range.1 hi
end Go.Proofs.YtmpddomgiplnmaaDoor.Abs
