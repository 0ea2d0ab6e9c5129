/-
  strconv.FormatInt AND Itoa AS CONTRACTS ON DATA: a number in digits, with its sign.
-/
import Derived.Test.YtmpddomgiplnmaaDoorSh2
import Derived.Test.YtmpddomgiplnmaaDoorSq2
import Derived.KernelRfl
namespace Go.Proofs.YtmpddomgiplnmaaDoor.Abs
open Go Go.Lib

theorem digs_dec : ∀ n : Nat, toL (digs n) = decDigits n := by
  intro n
  induction n using Nat.strongRecOn with
  | _ n ih =>
    rw [decDigits]
    by_cases h : n < 10
    · rw [dif_pos h, digs.eq_1, if_pos h, dg_val, Nat.mod_eq_of_lt h]
    · rw [dif_neg h, digs.eq_1 n, if_neg h, toL_append, ih (n / 10) (by omega), dg_val]
theorem wrF_itoa (n : Int) : toL (wrF n) = itoa n := by
  unfold wrF itoa
  by_cases h : n < 0
  · rw [decide_eq_true h, if_pos h, cond_true, toL_append, digs_dec, toL_one]
    have : (-n).toNat = n.natAbs := by omega
    rw [this]
    rfl
  · rw [decide_eq_false h, if_neg h, cond_false, digs_dec]
theorem tab_ok {O : Nat → Prop} {w : World} (hg : gOk w O) : TabIs Tryd.prog w "internal/strconv.uint64pow10" .u64 pow10Tab := by
  obtain ⟨_, _, ty, fz, h⟩ := hg _ (List.mem_cons_self ..)
  have h1 : Tryd.prog.globalNamed "internal/strconv.uint64pow10" = some 1 := by kernel_rfl
  have h : w.heap[1]? = some (.cells _ ty fz) := h
  unfold TabIs World.var?
  rw [h1, Option.bind_some, h]
  rfl
theorem grown_ext {O : Nat → Prop} {w : World} (k : Nat) (os : Array Obj) : Ext O w O noneμ (Sort.grow (w.drewN k) os) O noneμ := by
  have hg : ∀ b : Nat, b < w.heap.size → (Sort.grow (w.drewN k) os).heap[b]? = w.heap[b]? := fun b hb => by
    show (w.heap ++ os)[b]? = _
    rw [Array.getElem?_append, if_pos hb]
  have hsz : (Sort.grow (w.drewN k) os).heap.size = w.heap.size + os.size := by
    show (w.heap ++ os).size = _
    simp
  exact ⟨rfl, rfl, rfl, by omega, fun b hb _ => hg b hb, fun b cur t fz hb => ⟨cur, (hg b (Array.getElem?_eq_some_iff.1 hb).1).trans hb, rfl⟩, fun _ _ h => h, fun _ h => .inl h, fun b hb _ => hg b hb, fun a ha => frozen_same (hg a.block ha), Nat.le_add_right _ _⟩
theorem itoa_str (n : Int) : (⟨(itoa n).toArray⟩ : ByteArray) = wrF n := toL_inj (by
  rw [wrF_itoa])
theorem formatInt (n : Int) (h : -4611686018427387904 < n ∧ n < 4611686018427387904) : PCall Tryd.prog 36 [iint n, iint 10] (.cv (str (wrF n))) := by
  intro O w vals hO hg hA
  obtain ⟨hl, hv⟩ := hA
  match vals, hl with
  | [a, b], _ =>
    have h1 : IRel w O (.val (.int .i64 n)) a := hv 0 _ _ rfl rfl
    have h2 : IRel w O (.val (.int .i64 10)) b := hv 1 _ _ rfl rfl
    obtain ⟨rfl, _⟩ := h1
    obtain ⟨rfl, _⟩ := h2
    refine (Any.strconv_FormatInt_10 fmtInt n (by omega) (by omega) w (tab_ok hg)).mono ?_
    rintro e w' ⟨rfl, k, os, rfl⟩
    refine ⟨_, rfl, grown_ext k os, ?_⟩
    rw [itoa_str]
    exact ⟨rfl, rfl⟩
theorem itoaP (n : Int) (h : -4611686018427387904 < n ∧ n < 4611686018427387904) : PCall Tryd.prog 37 [iint n] (.cv (str (wrF n))) := by
  intro O w vals hO hg hA
  obtain ⟨hl, hv⟩ := hA
  match vals, hl with
  | [a], _ =>
    have h1 : IRel w O (.val (.int .i64 n)) a := hv 0 _ _ rfl rfl
    obtain ⟨rfl, _⟩ := h1
    refine (Any.strconv_Itoa itoaL n (by omega) (by omega) w (tab_ok hg)).mono ?_
    rintro e w' ⟨rfl, k, os, rfl⟩
    refine ⟨_, rfl, grown_ext k os, ?_⟩
    rw [itoa_str]
    exact ⟨rfl, rfl⟩
end Go.Proofs.YtmpddomgiplnmaaDoor.Abs
