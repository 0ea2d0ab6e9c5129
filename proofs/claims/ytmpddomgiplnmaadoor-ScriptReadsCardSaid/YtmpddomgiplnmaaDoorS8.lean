/-
  PLANS COMPARED; a plan of few deeds; alive.
-/
import Derived.Test.YtmpddomgiplnmaaDoorS7
namespace Go.Proofs.YtmpddomgiplnmaaDoor.Abs
open Go
set_option maxRecDepth 10000

noncomputable section

structure LikeD (a b : Dd) : Prop where
  kind : a.kind = b.kind
  n : a.nums.n = b.nums.n
  v : ∀ i, i < a.nums.n → a.nums.at_ i = b.nums.at_ i
structure LikeP (a b : Pl) : Prop where
  procs : a.procs = b.procs
  nodes : a.nodes = b.nodes
  n : a.deeds.n = b.deeds.n
  d : ∀ i, i < a.deeds.n → LikeD (a.deeds.at_ i) (b.deeds.at_ i)
noncomputable def likeB (a b : Pl) : Bool := @decide (LikeP a b) (Classical.propDecidable _)
theorem likeB_t {a b : Pl} (h : LikeP a b) : likeB a b = true := by
  unfold likeB
  exact @decide_eq_true _ (Classical.propDecidable _) h
theorem likeB_f {a b : Pl} (h : ¬ LikeP a b) : likeB a b = false := by
  unfold likeB
  exact @decide_eq_false _ (Classical.propDecidable _) h
theorem likeB_iff {a b : Pl} : likeB a b = true ↔ LikeP a b := by
  unfold likeB
  exact @decide_eq_true_iff _ (Classical.propDecidable _)

def e_Like : WEnv Tryd.prog lay := ⟨{ tab := tab0, cb := fun i => bif Nat.beq i 13 then some ([0, 1, 0, 7, 15, 0, 32, 0, 224, 480, 1023], [false, false, false, false, false, false, false, false, false, false, false]) else none }, good, rfl, (tab0_ok _), (et0_ok _)⟩
theorem Like (a b : Pl) (ha : a.deeds.n ≤ 1000000) (hd : ∀ i, i < a.deeds.n → (a.deeds.at_ i).nums.n ≤ 1000000) : PCall Tryd.prog 10 [plC a, plC b] (.cv (ibool (likeB a b))) := by
  refine pwalk e_Like Tryd.func10 rfl 79 rfl rfl ?_
  repeat' (first | refine And.intro ?_ ?_ | refine iT fun _ _ => ?_ | refine iF fun _ _ => ?_ | intro _ | exact sE | exact bE | exact trivial | exact rfl | assumption | omega)
  · rename_i h _
    refine sB (likeB_f fun g => ?_).symm
    rcases h with (h | h) | h
    · exact h g.procs
    · exact h g.nodes
    · exact h (by rw [g.n])
  rename_i h0 _
  refine ⟨AW_loopW e_Like [2, 3, 32] [] (fun (i : Nat) => [(33, .cv (iint i))]) (fun i => []) (fun i => a.deeds.n - i) (fun i => i ≤ a.deeds.n ∧ ∀ q, q < i → LikeD (a.deeds.at_ q) (b.deeds.at_ q)) (0) ?_ ?_⟩
  · repeat' (first | refine And.intro ?_ ?_ | refine iT fun _ _ => ?_ | refine iF fun _ _ => ?_ | intro _ | exact sE | exact bE | exact trivial | exact rfl | assumption | omega)
  rintro i ⟨hi, hs⟩
  repeat' (first | refine And.intro ?_ ?_ | refine iT fun _ _ => ?_ | refine iF fun _ _ => ?_ | intro _ | exact sE | exact bE | exact trivial | exact rfl | assumption | omega | (unfold maxLen; omega))
  all_goals (try simp only [Int.toNat_natCast] at *)
  · rename_i hlt _ h _
    refine sB (likeB_f fun g => ?_).symm
    have := g.d i (by omega)
    rcases h with h | h
    · exact h this.kind
    · exact h (by rw [this.n])
  · rename_i hlt _ h _
    have hk : (a.deeds.at_ i).kind = (b.deeds.at_ i).kind ∧ (a.deeds.at_ i).nums.n = (b.deeds.at_ i).nums.n := by
      refine Classical.byContradiction fun hc => h ?_
      rcases Classical.em ((a.deeds.at_ i).kind = (b.deeds.at_ i).kind) with h1 | h1
      · exact .inr fun h2 => hc ⟨h1, by omega⟩
      · exact .inl h1
    have hdn := hd i (by omega)
    refine ⟨AW_loopW e_Like [2, 3, 6, 7, 32, 33, 62] [] (fun (k : Nat) => [(63, .cv (iint k))]) (fun k => []) (fun k => (a.deeds.at_ i).nums.n - k) (fun k => k ≤ (a.deeds.at_ i).nums.n ∧ ∀ q, q < k → (a.deeds.at_ i).nums.at_ q = (b.deeds.at_ i).nums.at_ q) (0) ?_ ?_⟩
    · repeat' (first | refine And.intro ?_ ?_ | refine iT fun _ _ => ?_ | refine iF fun _ _ => ?_ | intro _ | exact sE | exact bE | exact trivial | exact rfl | assumption | omega)
    rintro k ⟨hk1, hk2⟩
    repeat' (first | refine And.intro ?_ ?_ | refine iT fun _ _ => ?_ | refine iF fun _ _ => ?_ | intro _ | exact sE | exact bE | exact trivial | exact rfl | assumption | omega | (unfold maxLen; omega))
    all_goals (try simp only [Int.toNat_natCast] at *)
    · rename_i h2 _
      refine sB (likeB_f fun g => ?_).symm
      exact h2 ((g.d i (by omega)).v k (by omega))
    · rename_i h2 _
      refine ⟨k + 1, [], ?_⟩
      repeat' (first | refine And.intro ?_ ?_ | refine iT fun _ _ => ?_ | refine iF fun _ _ => ?_ | intro _ | exact sE | exact bE | exact trivial | exact rfl | assumption | omega | exact sW (by omega) (by omega) (by omega) | (dsimp only; omega))
      rename_i q hq
      rcases Nat.lt_succ_iff_lt_or_eq.1 hq with h3 | rfl
      · exact hk2 q h3
      · exact Classical.byContradiction h2
    · refine ⟨i + 1, [], ?_⟩
      repeat' (first | refine And.intro ?_ ?_ | refine iT fun _ _ => ?_ | refine iF fun _ _ => ?_ | intro _ | exact sE | exact bE | exact trivial | exact rfl | assumption | omega | exact sW (by omega) (by omega) (by omega) | (dsimp only; omega))
      rename_i q hq
      rcases Nat.lt_succ_iff_lt_or_eq.1 hq with h3 | rfl
      · exact hs q h3
      · exact ⟨hk.1, hk.2, fun k' hk' => hk2 k' (by omega)⟩
  · refine sB (likeB_t ⟨?_, ?_, ?_, fun q hq => hs q (by omega)⟩).symm <;> refine Classical.byContradiction fun hc => h0 ?_
    · exact .inl (.inl hc)
    · exact .inl (.inr hc)
    · exact .inr (by omega)

def fewD (d : Dd) : Dd := ⟨d.kind, ⟨min d.nums.n 8, d.nums.at_⟩⟩
def fewP (p : Pl) (m : Nat) : Pl := ⟨p.procs, p.nodes, ⟨min p.deeds.n m, fun i => fewD (p.deeds.at_ i)⟩⟩
def fewAt (p : Pl) (i q : Nat) : Dd := bif Nat.blt q i then fewD (p.deeds.at_ q) else p.deeds.at_ q

def e_few : WEnv Tryd.prog lay := ⟨{ tab := tab0, stop := fun i => Nat.beq i 6 }, good, rfl, (tab0_ok _), (et0_ok _)⟩
def e_few2 : WEnv Tryd.prog lay := ⟨{ tab := tab0 }, good, rfl, (tab0_ok _), (et0_ok _)⟩
theorem few (p : Pl) (m : Nat) (hm : m ≤ 10000) : PCall Tryd.prog 7 [plC p, iint m] (.cv (plC (fewP p m))) := by
  refine pwalk e_few Tryd.func7 rfl 43 rfl rfl ?_
  have hn : (if (m : Int) < p.deeds.n then (m : Int) else p.deeds.n) = (min p.deeds.n m : Nat) := by
    split <;> omega
  repeat' (first | refine And.intro ?_ ?_ | refine iT fun _ _ => ?_ | refine iF fun _ _ => ?_ | intro _ | exact sE | exact bE | exact trivial | exact rfl | assumption | omega | exact bok (by omega) (by decide) | (rw [hn]; omega) | (rw [hn]; exact bok (by omega) (by decide)) | (rw [hn]; unfold maxLen; omega))
  refine ⟨AW_loopW e_few [2, 4] [] (fun (i : Nat) => [(20, .cv (iint (min p.deeds.n m : Nat))), (19, .cv (.one (.osl 3 2 0 0 (min p.deeds.n m) true))), (21, .cv (iint i))]) (fun i => [(0, .var 24 [.imm (.val (.int .i64 p.procs)), .imm (.val (.int .i64 p.nodes)), .osl 3 2 0 0 (min p.deeds.n m) true]), (3, .rows 40 2 (min p.deeds.n m) fun q j => ddE.f (fewAt p i q) j)]) (fun i => min p.deeds.n m - i) (fun i => i ≤ min p.deeds.n m) (0) ?_ ?_⟩
  · repeat' (first | refine And.intro ?_ ?_ | refine iT fun _ _ => ?_ | refine iF fun _ _ => ?_ | intro _ | exact sE | exact bE | exact trivial | exact rfl | assumption | omega | (rw [hn]; exact sI (by omega)) | (rw [hn]; exact sL (by omega)))
    · exact bV ⟨CLe.refl _, CLe.refl _, cL (by rw [hn]; omega), trivial⟩
    · refine bR (by rw [hn]; omega) fun q j hq hj => ?_
      rw [blt0]
      rfl
  intro i hi
  repeat' (first | refine And.intro ?_ ?_ | refine iT fun _ _ => ?_ | refine iF fun _ _ => ?_ | intro _ | exact sE | exact bE | exact trivial | exact rfl | assumption | omega | (unfold maxLen; omega) | exact bok (by omega) (by decide) | (rw [plusN_eq]; omega))
  · refine ⟨AW_giveV 8 5 1 rfl rfl rfl rfl ?_ (AW_go e_few2 ?_)⟩
    · repeat' (first | refine And.intro ?_ ?_ | refine iT fun _ _ => ?_ | refine iF fun _ _ => ?_ | intro _ | exact sE | exact bE | exact trivial | exact rfl | assumption | omega)
    repeat' (first | refine And.intro ?_ ?_ | refine iT fun _ _ => ?_ | refine iF fun _ _ => ?_ | intro _ | exact sE | exact bE | exact trivial | exact rfl | assumption | omega | (unfold maxLen; omega) | exact bok (by omega) (by decide) | (rw [plusN_eq]; omega))
    refine ⟨i + 1, [], ?_⟩
    repeat' (first | refine And.intro ?_ ?_ | refine iT fun _ _ => ?_ | refine iF fun _ _ => ?_ | intro _ | exact sE | exact bE | exact trivial | exact rfl | assumption | omega | exact sW (by omega) (by omega) (by omega) | (dsimp only; omega))
    have hx : fewAt p i i = p.deeds.at_ i := by unfold fewAt; rw [blt_f (Nat.le_refl _)]; rfl
    have hy : fewAt p (i + 1) i = fewD (p.deeds.at_ i) := by unfold fewAt; rw [blt_t (Nat.lt_succ_self i)]; rfl
    refine ⟨BLe.rows rfl fun q j hq hj => ?_⟩
    rcases Nat.lt_trichotomy q i with h | h | h
    · refine ILe.of_eq ?_
      show (bif Nat.beq q i && _ then _ else ddE.f (fewAt p i q) j) = ddE.f (fewAt p (i + 1) q) j
      rw [beq_f (show q ≠ i by omega)]
      unfold fewAt
      rw [blt_t h, blt_t (show q < i + 1 by omega)]
      rfl
    · subst h
      show ILe (bif Nat.beq q q && (Nat.ble 0 j && Nat.blt j (0 + 2)) then [IV.val (.int .i64 (fewAt p q q).kind), .sl 1 (0 + ((if (8 : Int) < (fewAt p q q).nums.n then 8 else ((fewAt p q q).nums.n : Int)) - 0).toNat) false fun a b => bif Nat.blt a 0 then ([] : List IV).getD (a * 1 + b) ivDef else i64E.f ((fewAt p q q).nums.at_ (a - 0)) b].getD (j - 0) ivDef else ddE.f (fewAt p q q) j) (ddE.f (fewAt p (q + 1) q) j)
      rw [Nat.beq_refl, hx, hy]
      match j, hj with
      | 0, _ => exact ILe.refl _
      | 1, _ =>
        refine ILe.sl ?_ (fun h => by cases h) (.inr ⟨rfl, fun a b ha hb => ILe.of_eq ?_⟩)
        · show min (p.deeds.at_ q).nums.n 8 = _
          split <;> omega
        · rw [blt0]
          rfl
    · refine ILe.of_eq ?_
      show (bif Nat.beq q i && _ then _ else ddE.f (fewAt p i q) j) = ddE.f (fewAt p (i + 1) q) j
      rw [beq_f (show q ≠ i by omega)]
      unfold fewAt
      rw [blt_f (show i ≤ q by omega), blt_f (show i + 1 ≤ q by omega)]
      rfl
  · obtain rfl : i = min p.deeds.n m := by omega
    refine sAg ⟨CLe.refl _, CLe.refl _, CLe.imm (ILe.sl rfl (fun h => by cases h) (.inr ⟨rfl, fun q j hq hj => ILe.of_eq ?_⟩)), trivial⟩
    rw [plusN_eq, Nat.zero_add]
    show ddE.f (fewAt p (min p.deeds.n m) q) j = _
    unfold fewAt
    rw [blt_t hq]
    rfl

def ta1 : Tab := tabC1 9 sA (fun s => .tup [plC (parseF s).1, iint (parseF s).2.1, iint (parseF s).2.2]) (fun s => s.size ≤ 100000) tp
theorem ta1_ok : TabOk Tryd.prog ta1 := tabC1_ok rfl (fun s hq => Parse s hq) tp_ok

def ta2 : Tab := tabC1 8 plA (fun p => .tup [str (printS p), iint (printE p)]) (fun _ => True) ta1
theorem ta2_ok : TabOk Tryd.prog ta2 := tabC1_ok rfl (fun p _ => Print p) ta1_ok

def ta3 : Tab := tabC2 10 plA plA (fun a b => .cv (ibool (likeB a b))) (fun a b => a.deeds.n ≤ 1000000 ∧ ∀ i, i < a.deeds.n → (a.deeds.at_ i).nums.n ≤ 1000000) ta2
theorem ta3_ok : TabOk Tryd.prog ta3 := tabC2_ok rfl (fun a b hq => Like a b hq.1 hq.2) ta2_ok

def aliveS : ByteArray := ⟨#[115, 116, 111, 114, 101, 32, 50, 32, 57, 10]⟩
def pl29 : Pl := ⟨2, 9, ⟨0, fun _ => ⟨0, ⟨0, fun _ => 0⟩⟩⟩⟩
def aliveB : Bool := bif (bif (bif (bif printE pl29 == 0 then (parseF (printS pl29)).2.1 == 0 else false) then sEq (printS pl29) aliveS else false) then (parseF (printS pl29)).1.nodes == 9 else false) then RightB (parseF (printS pl29)).1 else false
theorem printS_size {p : Pl} : (printS p).size ≤ 100000 := by
  unfold printS
  cases h : RightB p with
  | false => exact Nat.zero_le _
  | true =>
    have hR := RightB_iff.1 h
    have := prF_size hR p.deeds.n (Nat.le_refl _)
    have := hR.n
    rw [cond_true]
    omega

def e_alive : WEnv Tryd.prog lay := ⟨{ tab := ta3 }, good, rfl, ta3_ok, (et0_ok _)⟩
theorem alive : PCall Tryd.prog 11 [] (.cv (ibool aliveB)) := by
  refine pwalk e_alive Tryd.func11 rfl 36 rfl rfl ?_
  repeat' (first | refine And.intro ?_ ?_ | refine iT fun _ _ => ?_ | refine iF fun _ _ => ?_ | intro _ | exact sE | exact bE | exact trivial | exact rfl | assumption | exact slOk_lit | exact slOk_f | exact slOk_nil | omega | exact printS_size)
  all_goals trace_state
  all_goals sorry

end
end Go.Proofs.YtmpddomgiplnmaaDoor.Abs
