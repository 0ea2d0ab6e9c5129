/-
  NUMBERS AND PLANS, WRITTEN.
-/
import Derived.Test.YtmpddomgiplnmaaDoorS1
namespace Go.Proofs.YtmpddomgiplnmaaDoor.Abs
open Go
set_option maxRecDepth 10000

/-- A digit's letter; a number in digits; with a sign. -/
def dg (n : Int) : ByteArray := strOfNums [IntKind.u8.wrap (IntKind.i64.wrap (48 + n.tmod 10))]
def digs (n : Nat) : ByteArray := if n < 10 then dg n else digs (n / 10) ++ dg n
def wrF (n : Int) : ByteArray := bif decide (n < 0) then ⟨#[45]⟩ ++ digs (-n).toNat else digs n.toNat
theorem dg_size (n : Int) : (dg n).size = 1 := rfl
theorem digs_size : ∀ (k n : Nat), n < 10 ^ (k + 1) → (digs n).size ≤ k + 1
  | 0, n, h => by
    unfold digs
    rw [if_pos (by omega), dg_size]
    omega
  | k + 1, n, h => by
    unfold digs
    split
    · rw [dg_size]; omega
    · have := digs_size k (n / 10) (by rw [Nat.pow_succ] at h; omega)
      rw [ByteArray.size_append, dg_size]
      omega
theorem wrF_size {n : Int} (h1 : -10000000000000000000 < n) (h2 : n < 10000000000000000000) : (wrF n).size ≤ 20 := by
  unfold wrF
  cases decide (n < 0) with
  | true =>
    have := digs_size 18 (-n).toNat (by omega)
    rw [cond_true, ByteArray.size_append]
    have : (ByteArray.mk #[45]).size = 1 := rfl
    omega
  | false =>
    have := digs_size 18 n.toNat (by omega)
    rw [cond_false]
    omega
theorem wrapD (n : Nat) (h : n < 4611686018427387904) : IntKind.i64.wrap ((n : Int).tdiv 10) = ((n / 10 : Nat) : Int) := by
  rw [IntKind.wrap_i64]
  have : (n : Int).tdiv 10 = ((n / 10 : Nat) : Int) := rfl
  omega

theorem writtenP : ∀ (n : Nat), n < 4611686018427387904 → PCall Tryd.prog 38 [iint n] (.cv (str (digs n))) := by
  intro n
  induction n using Nat.strongRecOn with
  | _ n ih =>
    intro hn
    let tt : Tab := tabC1 38 nI (fun k => .cv (str (digs k.toNat))) (fun k => 0 ≤ k ∧ k < n) tab0
    refine pwalk ⟨{ tab := tt }, good, rfl, tabC1_ok rfl (fun k hk => by
      have := ih k.toNat (by omega) (by omega)
      rwa [Int.toNat_of_nonneg hk.1] at this) (tab0_ok _), et0_ok _⟩ Tryd.func38 rfl 24 rfl rfl ?_
    have hw := wrapD n hn
    have hs := digs_size 18 (n / 10) (by omega)
    repeat' (first | refine And.intro ?_ ?_ | refine iT fun _ _ => ?_ | refine iF fun _ _ => ?_ | intro _ | exact sE | exact bE | exact trivial | exact rfl | assumption | omega)
    all_goals (first | (rw [hw]; omega) | skip)
    · refine sS ?_
      unfold digs
      rw [if_pos (by omega)]
      rfl
    · show (digs (IntKind.i64.wrap ((n : Int).tdiv 10)).toNat).size + (dg n).size ≤ _
      rw [hw, dg_size]
      simp only [Int.toNat_natCast]
      omega
    · refine sS ?_
      show digs (IntKind.i64.wrap ((n : Int).tdiv 10)).toNat ++ dg n = digs n
      rw [hw, Int.toNat_natCast, digs.eq_1 n, if_neg (by omega)]
def tw0 : Tab := tabC1 38 nI (fun k => .cv (str (digs k.toNat))) (fun k => 0 ≤ k ∧ k < 4611686018427387904) tab0
theorem tw0_ok : TabOk Tryd.prog tw0 := tabC1_ok rfl (fun k hk => by
      have := writtenP k.toNat (by omega)
      rwa [Int.toNat_of_nonneg hk.1] at this) (tab0_ok _)
def e_written : WEnv Tryd.prog lay := ⟨{ tab := tw0 }, good, rfl, tw0_ok, et0_ok _⟩
theorem written (n : Int) (h : -4611686018427387904 < n ∧ n < 4611686018427387904) : PCall Tryd.prog 38 [iint n] (.cv (str (wrF n))) := by
  rcases Int.lt_or_le n 0 with hn | hn
  · have hw : IntKind.i64.wrap (0 - n) = -n := by
      rw [IntKind.wrap_i64]
      omega
    have hs := digs_size 18 (-n).toNat (by omega)
    refine pwalk e_written Tryd.func38 rfl 24 rfl rfl ?_
    repeat' (first | refine And.intro ?_ ?_ | refine iT fun _ _ => ?_ | refine iF fun _ _ => ?_ | intro _ | exact sE | exact bE | exact trivial | exact rfl | assumption | omega)
    all_goals (first | (rw [hw]; omega) | skip)
    · show (ByteArray.mk #[45]).size + (digs (IntKind.i64.wrap (0 - n)).toNat).size ≤ _
      rw [hw]
      have : (ByteArray.mk #[45]).size = 1 := rfl
      omega
    · refine sS ?_
      show ⟨#[45]⟩ ++ digs (IntKind.i64.wrap (0 - n)).toNat = wrF n
      unfold wrF
      rw [hw, decide_eq_true hn]
      rfl
    all_goals (exfalso; rename_i hc _; exact hc hn)
  · have := writtenP n.toNat (by omega)
    rw [Int.toNat_of_nonneg hn] at this
    unfold wrF
    rw [decide_eq_false (by omega)]
    exact this
def tw : Tab := tabC1 38 nI (fun k => .cv (str (wrF k))) (fun n => -4611686018427387904 < n ∧ n < 4611686018427387904) t4
theorem tw_ok : TabOk Tryd.prog tw := tabC1_ok rfl (fun k hk => written k hk) t4_ok

def linF (w : ByteArray) (s : Sl Int) : Nat → ByteArray
  | 0 => w
  | i + 1 => linF w s i ++ (⟨#[32]⟩ ++ wrF (s.at_ i))
structure smallS (s : Sl Int) : Prop where
  n : s.n ≤ 1000000
  v : ∀ i, i < s.n → -4611686018427387904 < s.at_ i ∧ s.at_ i < 4611686018427387904
theorem sp_size : (ByteArray.mk #[32]).size = 1 := rfl
theorem nl_size : (ByteArray.mk #[10]).size = 1 := rfl
theorem linF_size (w : ByteArray) (s : Sl Int) (h : smallS s) : ∀ i, i ≤ s.n → (linF w s i).size ≤ w.size + 21 * i
  | 0, _ => by simp [linF]
  | i + 1, hi => by
    have := linF_size w s h i (by omega)
    have h2 := h.v i (by omega)
    have := wrF_size (n := s.at_ i) (by omega) (by omega)
    rw [linF, ByteArray.size_append, ByteArray.size_append, sp_size]
    omega
def lineF (w : ByteArray) (s : Sl Int) : ByteArray := linF w s s.n ++ ⟨#[10]⟩
theorem lineF_size {w : ByteArray} {s : Sl Int} (h : smallS s) : (lineF w s).size ≤ w.size + 21 * s.n + 1 := by
  have := linF_size w s h s.n (Nat.le_refl _)
  rw [lineF, ByteArray.size_append, nl_size]
  omega

def e_line : WEnv Tryd.prog lay := ⟨{ tab := tw }, good, rfl, tw_ok, (et0_ok _)⟩
theorem line (w : ByteArray) (s : Sl Int) (hw : w.size ≤ 1000000000 ∧ smallS s) : PCall Tryd.prog 19 [str w, .one (.imm (slI i64E s))] (.cv (str (lineF w s))) := by
  refine pwalk e_line Tryd.func19 rfl 21 rfl rfl ?_
  have hn := hw.2.n
  repeat' (first | refine And.intro ?_ ?_ | refine iT fun _ _ => ?_ | refine iF fun _ _ => ?_ | intro _ | exact sE | exact bE | exact trivial | exact rfl | assumption)
  refine ⟨AW_loopW e_line [7, 8] [] (fun (i : Nat) => [(0, .cv (str (linF w s i))), (9, .cv (iint i))]) (fun i => []) (fun i => s.n - i) (fun i => i ≤ s.n) (0) ?_ ?_⟩
  · repeat' (first | refine And.intro ?_ ?_ | refine iT fun _ _ => ?_ | refine iF fun _ _ => ?_ | intro _ | exact sE | exact bE | exact trivial | exact rfl | assumption | omega)
  intro i hi
  repeat' (first | refine And.intro ?_ ?_ | refine iT fun _ _ => ?_ | refine iF fun _ _ => ?_ | intro _ | exact sE | exact bE | exact trivial | exact rfl | assumption | omega)
  · have := hw.2.v i (by omega)
    exact this.1
  · have := hw.2.v i (by omega)
    exact this.2
  · have h2 := hw.2.v i (by omega)
    have := wrF_size (n := s.at_ i) (by omega) (by omega)
    show (ByteArray.mk #[32]).size + (wrF (s.at_ i)).size ≤ _
    rw [sp_size]
    omega
  · have h2 := hw.2.v i (by omega)
    have := wrF_size (n := s.at_ i) (by omega) (by omega)
    have := linF_size w s hw.2 i hi
    show (linF w s i).size + (ByteArray.mk #[32] ++ wrF (s.at_ i)).size ≤ _
    rw [ByteArray.size_append, sp_size]
    omega
  · refine ⟨i + 1, [], ?_⟩
    repeat' (first | refine And.intro ?_ ?_ | refine iT fun _ _ => ?_ | refine iF fun _ _ => ?_ | intro _ | exact sE | exact bE | exact trivial | exact rfl | assumption | omega | exact sW (by omega) (by omega) (by omega) | (dsimp only; omega))
  · have := linF_size w s hw.2 i hi
    show (linF w s i).size + (ByteArray.mk #[10]).size ≤ _
    rw [nl_size]
    omega
  · obtain rfl : i = s.n := by omega
    exact sE

def tl : Tab := tabC2 19 codStr (codSl i64E) (fun w s => .cv (str (lineF w s))) (fun w s => w.size ≤ 1000000000 ∧ smallS s) tw
theorem tl_ok : TabOk Tryd.prog tl := tabC2_ok rfl (fun w s h => line w s h) tw_ok
/-- What is known of a plan that may be. -/
theorem anyB_f {g : Nat → Bool} {n : Nat} (h : anyB g n = false) : ∀ i, i < n → g i = false := anyB_false.1 h
structure RightD (d : Dd) : Prop where
  k1 : 1 ≤ d.kind
  k7 : d.kind ≤ 7
  n : (d.nums.n : Int) = numsK d.kind
  big : ∀ i, i < d.nums.n → -1073741824 ≤ d.nums.at_ i ∧ d.nums.at_ i ≤ 1073741824
theorem rightB_iff {d : Dd} : rightB d = true ↔ RightD d := by
  constructor
  · intro h
    unfold rightB isK at h
    cases h1 : (decide (1 ≤ d.kind) && decide (d.kind ≤ 7)) with
    | false => rw [h1] at h; cases h
    | true =>
      rw [h1] at h
      simp only [cond_true] at h
      cases h2 : (d.nums.n : Int) == numsK d.kind with
      | false => rw [h2] at h; cases h
      | true =>
        rw [h2] at h
        simp only [cond_true, Bool.not_eq_true'] at h
        rw [Bool.and_eq_true, decide_eq_true_eq, decide_eq_true_eq] at h1
        refine ⟨h1.1, h1.2, by simpa using h2, fun i hi => ?_⟩
        have := anyB_f h i hi
        unfold bigB at this
        cases h3 : decide (d.nums.at_ i < -1073741824) with
        | true => rw [h3] at this; cases this
        | false =>
          rw [h3] at this
          simp only [cond_false, decide_eq_false_iff_not] at this h3
          omega
  · rintro ⟨h1, h2, h3, h4⟩
    unfold rightB isK
    rw [decide_eq_true h1, decide_eq_true h2]
    simp only [Bool.and_self, cond_true]
    rw [h3, beq_self_eq_true, cond_true, Bool.not_eq_true']
    refine anyB_false.2 fun i hi => ?_
    have := h4 i hi
    unfold bigB
    rw [decide_eq_false (by omega), cond_false, decide_eq_false (by omega)]
structure RightP_ (p : Pl) : Prop where
  p1 : 1 ≤ p.procs
  p8 : p.procs ≤ 8
  n1 : 1 ≤ p.nodes
  n512 : p.nodes ≤ 512
  n : p.deeds.n ≤ 200
  ds : ∀ i, i < p.deeds.n → RightD (p.deeds.at_ i)
theorem beginsB_iff {p : Pl} : beginsB p = true ↔ (1 ≤ p.procs ∧ p.procs ≤ 8) ∧ 1 ≤ p.nodes ∧ p.nodes ≤ 512 := by
  unfold beginsB
  rw [PB.iff (b := bif (bif (bif decide (p.procs ≥ 1) then decide (p.procs ≤ 8) else false) then decide (p.nodes ≥ 1) else false) then decide (p.nodes ≤ 512) else false)]
  omega
theorem RightB_iff {p : Pl} : RightB p = true ↔ RightP_ p := by
  constructor
  · intro h
    unfold RightB at h
    obtain ⟨h1, h2⟩ := band_t h
    obtain ⟨h3, h4⟩ := band_t h1
    obtain ⟨⟨a, b⟩, c, d⟩ := beginsB_iff.1 h3
    refine ⟨a, b, c, d, by have := of_decide_eq_true h4; omega, fun i hi => ?_⟩
    have := anyB_f (by simpa using h2) i hi
    exact rightB_iff.1 (by simpa using this)
  · rintro ⟨a, b, c, d, e, f⟩
    unfold RightB
    rw [beginsB_iff.2 ⟨⟨a, b⟩, c, d⟩, cond_true, decide_eq_true (by omega), cond_true, Bool.not_eq_true']
    exact anyB_false.2 fun i hi => by rw [rightB_iff.2 (f i hi)]; rfl
theorem numsK_le {k : Int} : numsK k ≤ 5 := by
  unfold numsK
  repeat' (first | (cases h : (k == _) <;> simp only [cond_true, cond_false]) | omega)
theorem RightD.small {d : Dd} (h : RightD d) : smallS d.nums := by
  have := h.n
  have := @numsK_le d.kind
  exact ⟨by omega, fun i hi => by have := h.big i hi; omega⟩
def wordM (k : Int) : ByteArray := bif isK k then wordK k else ⟨#[]⟩
theorem wordM_size {k : Int} : (wordM k).size ≤ 5 := by
  unfold wordM wordK
  repeat' (first | (cases h : (k == _) <;> simp only [cond_true, cond_false]) | (cases h : isK k <;> simp only [cond_true, cond_false]) | decide)
def headF (p : Pl) : ByteArray := lineF ⟨#[115, 116, 111, 114, 101]⟩ ⟨2, fun i => ivInt ([IV.val (.int .i64 p.procs), .val (.int .i64 p.nodes)].getD (i * 1 + 0) ivDef)⟩
def prF (p : Pl) : Nat → ByteArray
  | 0 => headF p
  | i + 1 => prF p i ++ lineF (wordM (p.deeds.at_ i).kind) (p.deeds.at_ i).nums
theorem small2 {p : Pl} (h : RightP_ p) : smallS ⟨2, fun i => ivInt ([IV.val (.int .i64 p.procs), .val (.int .i64 p.nodes)].getD (i * 1 + 0) ivDef)⟩ := ⟨by show 2 ≤ 1000000; decide, fun i hi => by
    have h1 := h.p1; have h2 := h.p8; have h3 := h.n1; have h4 := h.n512
    match i, hi with
    | 0, _ => show -4611686018427387904 < p.procs ∧ p.procs < 4611686018427387904; omega
    | 1, _ => show -4611686018427387904 < p.nodes ∧ p.nodes < 4611686018427387904; omega⟩
theorem headF_size {p : Pl} (h : RightP_ p) : (headF p).size ≤ 100 := by
  have := @lineF_size ⟨#[115, 116, 111, 114, 101]⟩ ⟨2, fun i => ivInt ([IV.val (.int .i64 p.procs), .val (.int .i64 p.nodes)].getD (i * 1 + 0) ivDef)⟩ (small2 h)
  have e : (ByteArray.mk #[115, 116, 111, 114, 101]).size = 5 := rfl
  rw [e] at this
  unfold headF
  exact Nat.le_trans this (by show 5 + 21 * 2 + 1 ≤ 100; decide)
theorem prF_size {p : Pl} (h : RightP_ p) : ∀ i, i ≤ p.deeds.n → (prF p i).size ≤ 100 + 200 * i
  | 0, _ => headF_size h
  | i + 1, hi => by
    have := prF_size h i (by omega)
    have hd := h.ds i (by omega)
    have h2 := @lineF_size (wordM (p.deeds.at_ i).kind) (p.deeds.at_ i).nums hd.small
    have := @wordM_size (p.deeds.at_ i).kind
    have h3 := hd.n
    have := @numsK_le (p.deeds.at_ i).kind
    rw [prF, ByteArray.size_append]
    omega
def printS (p : Pl) : ByteArray := bif RightB p then prF p p.deeds.n else ⟨#[]⟩
def printE (p : Pl) : Int := bif RightB p then 0 else 1
def tp : Tab := tabC1 12 plA (fun p => .cv (ibool (RightB p))) (fun _ => True) tl
theorem tp_ok : TabOk Tryd.prog tp := tabC1_ok rfl (fun p _ => RightP p) tl_ok

def e_Print : WEnv Tryd.prog lay := ⟨{ tab := tp, fz := fun i => bif Nat.beq i 3 then [4] else [], cb := fun i => bif Nat.beq i 7 then some ([0, 0, 0, 4, 14, 30, 0, 64, 254, 511, 1023], [false, false, false, false, false, false, false, false, false, false, false]) else none }, good, rfl, tp_ok, (et0_ok _)⟩
theorem Print (p : Pl) : PCall Tryd.prog 8 [plC p] (.tup [str (printS p), iint (printE p)]) := by
  refine pwalk e_Print Tryd.func8 rfl 35 rfl rfl ?_
  repeat' (first | refine And.intro ?_ ?_ | refine iT fun _ _ => ?_ | refine iF fun _ _ => ?_ | intro _ | exact sE | exact bE | exact trivial | exact rfl | assumption | exact slOk_lit | exact slOk_f | exact slOk_nil | omega | exact slOk_1 rfl | exact slOk_2 rfl rfl)
  · rename_i hx
    have hx : RightB p = false := bnot_t hx
    unfold printS printE
    rw [hx]
    exact sE
  all_goals (rename_i hx; have hx : RightB p = true := bnot_f hx; have hR := RightB_iff.1 hx)
  · decide
  · exact small2 hR
  refine ⟨AW_loopW e_Print [17, 18] [] (fun (i : Nat) => [(4, .cv (str (prF p i))), (19, .cv (iint i))]) (fun i => []) (fun i => p.deeds.n - i) (fun i => i ≤ p.deeds.n) (0) ?_ ?_⟩
  · repeat' (first | refine And.intro ?_ ?_ | refine iT fun _ _ => ?_ | refine iF fun _ _ => ?_ | intro _ | exact sE | exact bE | exact trivial | exact rfl | assumption | omega)
  intro i hi
  have hn := hR.n
  have f2 : i < p.deeds.n → smallS (p.deeds.at_ i).nums := fun h => (hR.ds i h).small
  have f3 : i < p.deeds.n → (prF p i).size + (lineF (wordM (p.deeds.at_ i).kind) (p.deeds.at_ i).nums).size ≤ 9223372036854775807 := fun h => by
    have := prF_size hR (i + 1) h
    rw [prF, ByteArray.size_append] at this
    omega
  repeat' (first | refine And.intro ?_ ?_ | refine iT fun _ _ => ?_ | refine iF fun _ _ => ?_ | intro _ | exact sE | exact bE | exact trivial | exact rfl | assumption | exact slOk_lit | exact slOk_f | exact slOk_nil | omega | exact Nat.le_trans (@wordM_size (p.deeds.at_ i).kind) (by decide) | exact f2 (by omega) | exact f3 (by omega))
  · refine ⟨i + 1, [], ?_⟩
    repeat' (first | refine And.intro ?_ ?_ | refine iT fun _ _ => ?_ | refine iF fun _ _ => ?_ | intro _ | exact sE | exact bE | exact trivial | exact rfl | assumption | omega | exact sW (by omega) (by omega) (by omega) | (dsimp only; omega))
  · obtain rfl : i = p.deeds.n := by omega
    unfold printS printE
    rw [hx]
    exact sE
  

end Go.Proofs.YtmpddomgiplnmaaDoor.Abs
