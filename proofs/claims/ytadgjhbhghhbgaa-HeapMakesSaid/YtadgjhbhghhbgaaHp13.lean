/-
  THE CONTRACTS OF PACKAGE heap: folded.
-/
import Derived.Test.YtadgjhbhghhbgaaHp4
import Derived.Test.YtadgjhbhghhbgaaIt1
import Derived.Test.YtadgjhbhghhbgaaX9
namespace Go.Proofs.Ytadgjhbhghhbgaa.Abs
open Go
set_option maxRecDepth 10000

/-- slices.Chunk's, slices.Backward's answers. -/
def chunkV (s : Sl Int) : SV := .cv (.one (fnV 84 [.vptr 1 fun _ => slI refE s, .vptr 1 fun _ => .val (.int .i64 2)]))
def backV (s : Sl Int) : SV := .cv (.one (fnV 85 [.vptr 1 fun _ => slI refE s]))
theorem cap_le {x : IV} : CLe (.one (.vptr ([x].length - (0 * 0 + 0)) fun q => [x].getD (0 * 0 + 0 + q) ivDef)) (.one (.vptr 1 fun _ => x)) := fun _ _ _ _ ⟨b, o, hv, h1, h2, h3⟩ => ⟨b, o, hv, h1, h2, fun j hj => by
  obtain rfl : j = 0 := by omega
  exact h3 0 (Nat.zero_lt_one)⟩

theorem chunkCall (s : Sl Int) : PCall Try.prog 64 [.one (.imm (slI refE s)), iint 2] (chunkV s) := by
  refine PCall_of (ACall_body good Try.func64 rfl 9 rfl (by simp) ?_)
  refine AW_seq ?_
  refine AW_all good tab0 (tab0_ok _) rfl rfl ?_ ?_
  · repeat' (first | exact trivial | exact rfl | exact (fun _ _ => rfl) | refine And.intro ?_ ?_ | intro _)
  refine AW_seq ?_
  refine AW_seq ?_
  refine AW_all good tab0 (tab0_ok _) rfl rfl ?_ ?_
  · repeat' (first | exact trivial | exact rfl | exact (fun _ _ => rfl) | refine And.intro ?_ ?_ | intro _)
  refine AW_cond rfl (fun h1 => ?_) (fun h1 => ?_)
  · first
    | (exfalso; simp_all; done)
    | (
        fail
    )
  · first
    | (exfalso; simp_all; done)
    | (
        refine AW_skip ?_
        refine AW_seq ?_
        refine AW_all good tab0 (tab0_ok _) rfl rfl ?_ ?_
        · repeat' (first | exact trivial | exact rfl | exact (fun _ _ => rfl) | refine And.intro ?_ ?_ | intro _)
        refine AW_ret (bodyQ_ret rfl ?_ (Ends.le rfl ?_ ?_))
        · repeat' (first | exact trivial | exact rfl | exact (fun _ _ => rfl) | refine And.intro ?_ ?_ | intro _)
        · repeat' (first | exact trivial | exact rfl | exact (fun _ _ => rfl) | refine And.intro ?_ ?_ | intro _)
        exact SLe.cv (CLe.fn (fun i hi => absurd hi (Nat.not_lt_zero i)) fun i hi => by
          match i, hi with
          | 0, _ => exact cap_le
          | 1, _ => exact cap_le)
    )

theorem backCall (s : Sl Int) : PCall Try.prog 65 [.one (.imm (slI refE s))] (backV s) := by
  refine PCall_of (ACall_body good Try.func65 rfl 4 rfl (by simp) ?_)
  refine AW_seq ?_
  refine AW_all good tab0 (tab0_ok _) rfl rfl ?_ ?_
  · repeat' (first | exact trivial | exact rfl | exact (fun _ _ => rfl) | refine And.intro ?_ ?_ | intro _)
  refine AW_seq ?_
  refine AW_all good tab0 (tab0_ok _) rfl rfl ?_ ?_
  · repeat' (first | exact trivial | exact rfl | exact (fun _ _ => rfl) | refine And.intro ?_ ?_ | intro _)
  refine AW_ret (bodyQ_ret rfl ?_ (Ends.le rfl ?_ ?_))
  · repeat' (first | exact trivial | exact rfl | exact (fun _ _ => rfl) | refine And.intro ?_ ?_ | intro _)
  · repeat' (first | exact trivial | exact rfl | exact (fun _ _ => rfl) | refine And.intro ?_ ?_ | intro _)
  exact SLe.cv (CLe.fn (fun i hi => absurd hi (Nat.not_lt_zero i)) fun i hi => by
    match i, hi with
    | 0, _ => exact cap_le)

noncomputable def th20 : Tab := tabC2 64 (codSl refE) nI (fun s _ => chunkV s) (fun _ n => n = 2) (tabC1 65 (codSl refE) backV (fun _ => True) th8)
theorem th20_ok : TabOk Try.prog th20 := tabC2_ok rfl (fun s n h => by subst h; exact chunkCall s) (tabC1_ok rfl (fun s _ => backCall s) th8_ok)
theorem IterOk.congr {P : Program} {gf : FuncId} {nc N : Nat} {caps caps' : Nat → AV} {xs : Nat → List CV} (h : IterOk P gf nc caps' N xs) (hc : ∀ i, i < nc → caps i = caps' i) : IterOk P gf nc caps N xs := fun w O lb h1 h2 h3 => h w O lb h1 h2 fun i u hu => by
  rw [← hc i (by rw [← h2]; exact (List.getElem?_eq_some_iff.1 hu).1)]
  exact h3 i u hu
/-- One pair of a row is put together. -/
noncomputable def stepP (q : Pile) (c : Sl Int) : Pile × Int := bif ((c.n : Int) == 2) then hpMeld q (c.at_ 0) (c.at_ 1) else (q, c.at_ 0)
noncomputable def pairQ (l : Sl Int) (p : Pile) : Nat → Pile
  | 0 => p
  | i + 1 => (stepP (pairQ l p i) (chunkS l i)).1
noncomputable def pairV (l : Sl Int) (p : Pile) (i : Nat) : Int := (stepP (pairQ l p i) (chunkS l i)).2
noncomputable def pairS (l : Sl Int) (p : Pile) : Sl Int := ⟨(l.n + 1) / 2, pairV l p⟩
/-- A row is put together from its end on. -/
noncomputable def bkQ (s : Sl Int) (q : Pile) : Nat → Pile × Int
  | 0 => (q, 0)
  | i + 1 => hpMeld (bkQ s q i).1 (s.at_ (s.n - 1 - i)) (bkQ s q i).2
noncomputable def foldF (p : Pile) (l : Sl Int) : Pile × Int := bkQ (pairS l p) (pairQ l p ((l.n + 1) / 2)) ((l.n + 1) / 2)
theorem ref_row {f : Nat → Int} {i q j : Nat} {x : Int} (hq : q < i + 1) (hj : j < 1) (hv : f i = x) : (bif Nat.blt q i then refE.f (f q) j else [ivOf (Value.int .u64 x)].getD (plusN 0 (q - i) * 1 + j) ivDef) = refE.f (f q) j := by
  obtain rfl : j = 0 := by omega
  rcases Nat.lt_or_ge q i with h | h
  · rw [blt_t h]
    rfl
  · obtain rfl : q = i := by omega
    rw [blt_f (Nat.le_refl _), Nat.sub_self, hv]
    rfl
/-- What puts two together. -/
def doV (s : Nat) : AV := .fn (.func 45) 1 (fun _ => .own s 0 0 0) 0 fun _ => avDef
def doB (s : Nat) : ABlk := .var 93 [doV s]
theorem doB_le {ρ : Nat → Nat} {s : Nat} (h : ρ s = s) : BLe (doB s) (renB ρ (doB s)) := BLe.var ⟨CLe.fn' (fun i hi => (by
  match i, hi with
  | 0, _ => exact CLe.of_eq (by show CV.one (AV.own s 0 0 0) = .one (.own (ρ s) 0 0 0); rw [h]))) (fun i hi => absurd hi (Nat.not_lt_zero i)), trivial⟩

set_option maxHeartbeats 2000000 in
theorem foldCall (p : Pile) (l : Sl Int) (hn : l.n < 1000) : ACall Try.prog 50 [.one (.imm (slI refE l)), u64 0, .one (doV 0)] (heapOf [bkV 109 piE p]) 1 fun x' H' n' => x' = .cv (u64 (foldF p l).2) ∧ H' = updH (heapOf [bkV 109 piE p]) (updL 0 [some (bkV 109 piE (foldF p l).1)]) ∧ n' = 1 + 0 := by
  refine ACall_norm (Bs := [bkV 109 piE p]) (cnt := 0) ?_
  change ACall _ _ _ _ 1 _
  refine ACall_body good Try.func50 rfl 44 rfl (by simp) ?_
  refine AW_seq ?_
  refine AW_all good th20 (th20_ok) rfl rfl ?_ ?_
  · repeat' (first | exact trivial | exact rfl | exact (fun _ _ => rfl) | refine And.intro ?_ ?_ | intro _)
  refine AW_seq ?_
  refine AW_blk 1 rfl (B := doB 0) (BLe.of_eq rfl) ?_
  refine AW_all good th20 (th20_ok) rfl rfl ?_ ?_
  · repeat' (first | exact trivial | exact rfl | exact (fun _ _ => rfl) | refine And.intro ?_ ?_ | intro _)
  refine AW_seq ?_
  refine AW_seq ?_
  refine AW_all good th20 (th20_ok) rfl rfl ?_ ?_
  · repeat' (first | exact trivial | exact rfl | exact (fun _ _ => rfl) | refine And.intro ?_ ?_ | intro _)
    all_goals exact slOk_lit
  refine AW_block ?_
  refine AW_absent 37 1 (fun _ _ => .val (.int .u64 0)) ?_
  refine AW_blk 2 rfl (B := .var 87 [.osl 3 1 0 0 0 true]) (BLe.var ⟨CLe.empty, trivial⟩) ?_
  refine AW_rangeX rfl rfl (enters_of Try.func84 rfl rfl) [1, 5, 7] [1] [] (fun j => [(0, bkV 109 piE (pairQ l p j)), (2, .var 87 [.osl 3 1 0 0 j true]), (3, bkR 37 refE ⟨j, pairV l p⟩)]) ((l.n + 1) / 2) (fun i => [.one (.imm (slI refE (chunkS l i)))]) ((chunk_iter l (by omega)).congr fun i hi => by match i, hi with | 0, _ => rfl | 1, _ => rfl) (fun _ => rfl) (fun _ => rfl) rfl trivial ⟨⟨_, rfl, BLe.of_eq rfl⟩, ⟨_, rfl, BLe.of_eq rfl⟩, ⟨_, rfl, BLe.rows rfl fun i j hi _ => absurd hi (Nat.not_lt_zero i)⟩, trivial⟩ (fun j hj => ?_) ?_
  · obtain ⟨c, hc⟩ : ∃ c, chunkS l j = c := ⟨_, rfl⟩
    have hc0 : 0 < c.n := by rw [← hc]; show 0 < min 2 (l.n - 2 * j); omega
    have hc2 : c.n ≤ 2 := by rw [← hc]; show min 2 (l.n - 2 * j) ≤ 2; omega
    refine AW_slot 15 (y := .cv (.one (.imm (slI refE c)))) rfl (SLe.of_eq (by rw [← hc]; rfl)) ?_
    refine AW_all good th20 (th20_ok) rfl rfl ?_ ?_
    · repeat' (first | exact trivial | exact rfl | exact (fun _ _ => rfl) | refine And.intro ?_ ?_ | intro _)
    refine AW_block ?_
    refine AW_seq ?_
    refine AW_all good th20 (th20_ok) rfl rfl ?_ ?_
    · repeat' (first | exact trivial | exact rfl | exact (fun _ _ => rfl) | refine And.intro ?_ ?_ | intro _)
      all_goals omega
    refine AW_seq ?_
    refine AW_seq ?_
    refine AW_all good th20 (th20_ok) rfl rfl ?_ ?_
    · repeat' (first | exact trivial | exact rfl | exact (fun _ _ => rfl) | refine And.intro ?_ ?_ | intro _)
    refine AW_cond rfl (fun h1 => ?_) (fun h1 => ?_)
    · first
      | (exfalso; simp_all; done)
      | (
          have hcn : (c.n : Int) = 2 := by simpa using h1
          refine AW_drwG good rfl th20 (th20_ok) eH2 (eH2_ok) [] [0, 0, 2, 6, 0, 16, 48, 127, 255] [false, false, false, false, false, false, false, true, false] (by rfl) (by rfl) rfl (by rfl) (by rfl) ?_ ?_ ?_
          · repeat' (first | exact trivial | exact rfl | exact (fun _ _ => rfl) | refine And.intro ?_ ?_ | intro _)
            all_goals (first | omega | exact slOk_lit)
          · repeat' (first | refine And.intro ?_ ?_ | exact trivial | exact rfl | intro _)
          refine AW_all good th20 (th20_ok) rfl rfl ?_ ?_
          · repeat' (first | exact trivial | exact rfl | exact (fun _ _ => rfl) | refine And.intro ?_ ?_ | intro _)
            all_goals (first | exact Nat.le_refl _ | (unfold maxLen; omega) | exact bytes_ok (by omega) (by decide))
          have hs : stepP (pairQ l p j) (chunkS l j) = hpMeld (pairQ l p j) (c.at_ 0) (c.at_ 1) := by rw [hc]; unfold stepP; rw [h1]; rfl
          have hq : pairQ l p (j + 1) = (hpMeld (pairQ l p j) (c.at_ 0) (c.at_ 1)).1 := congrArg Prod.fst hs
          have hv : pairV l p j = (hpMeld (pairQ l p j) (c.at_ 0) (c.at_ 1)).2 := congrArg Prod.snd hs
          refine blkQ_normal ?_
          refine joinX_end (l := fun _ : Unit => []) (hp := fun _ : Unit => [(0, bkV 109 piE (pairQ l p (j + 1))), (2, .var 87 [.osl 3 1 0 0 (j + 1) true]), (3, bkR 37 refE ⟨(j + 1), pairV l p⟩)]) () [0, 1, 2, 5] rfl rfl trivial ⟨SLe.of_eq rfl, SLe.of_eq rfl, SLe.of_eq rfl, trivial⟩ ⟨⟨rfl, _, rfl, BLe.of_eq (by rw [hq]; rfl)⟩, ⟨rfl, _, rfl, BLe.of_eq rfl⟩, ⟨rfl, _, rfl, BLe.rows rfl fun q i hq hi => ILe.of_eq (ref_row hq hi hv)⟩, trivial⟩ ⟨⟨rfl, _, _, rfl, rfl, doB_le rfl⟩, trivial⟩
      )
    · first
      | (exfalso; simp_all; done)
      | (
          refine AW_skip ?_
          refine AW_all good th20 (th20_ok) rfl rfl ?_ ?_
          · repeat' (first | exact trivial | exact rfl | exact (fun _ _ => rfl) | refine And.intro ?_ ?_ | intro _)
            all_goals (first | exact Nat.le_refl _ | (unfold maxLen; omega) | exact bytes_ok (by omega) (by decide))
          have hs : stepP (pairQ l p j) (chunkS l j) = (pairQ l p j, c.at_ 0) := by rw [hc]; unfold stepP; rw [h1]; rfl
          have hq : pairQ l p (j + 1) = pairQ l p j := congrArg Prod.fst hs
          have hv : pairV l p j = c.at_ 0 := congrArg Prod.snd hs
          refine blkQ_normal ?_
          refine joinX_end (l := fun _ : Unit => []) (hp := fun _ : Unit => [(0, bkV 109 piE (pairQ l p (j + 1))), (2, .var 87 [.osl 3 1 0 0 (j + 1) true]), (3, bkR 37 refE ⟨(j + 1), pairV l p⟩)]) () [0, 1, 2, 5] rfl rfl trivial ⟨SLe.of_eq rfl, SLe.of_eq rfl, SLe.of_eq rfl, trivial⟩ ⟨⟨rfl, _, rfl, BLe.of_eq (by rw [hq]; rfl)⟩, ⟨rfl, _, rfl, BLe.of_eq rfl⟩, ⟨rfl, _, rfl, BLe.rows rfl fun q i hq hi => ILe.of_eq (ref_row hq hi hv)⟩, trivial⟩ ⟨⟨rfl, _, _, rfl, rfl, doB_le rfl⟩, trivial⟩
      )
  refine AW_seq ?_
  refine AW_all good th20 (th20_ok) rfl rfl ?_ ?_
  · repeat' (first | exact trivial | exact rfl | exact (fun _ _ => rfl) | refine And.intro ?_ ?_ | intro _)
  refine AW_seq ?_
  refine AW_seq ?_
  refine AW_frzR 2 3 rfl rfl (Nat.le_refl _) ?_
  refine AW_blk 2 rfl (B := .var 87 [.imm (slI refE (pairS l p))]) (BLe.of_eq rfl) ?_
  refine AW_all good th20 (th20_ok) rfl rfl ?_ ?_
  · repeat' (first | exact trivial | exact rfl | exact (fun _ _ => rfl) | refine And.intro ?_ ?_ | intro _)
    all_goals exact slOk_lit
  refine AW_block ?_
  refine AW_rangeX rfl rfl (enters_of Try.func85 rfl rfl) [5, 10] [1] [] (fun j => [(0, bkV 109 piE (bkQ (pairS l p) (pairQ l p ((l.n + 1) / 2)) j).1), (4, .var 37 [.imm (.val (.int .u64 (bkQ (pairS l p) (pairQ l p ((l.n + 1) / 2)) j).2))])]) ((l.n + 1) / 2) (fun i => [iint (((pairS l p).n - 1 - i : Nat) : Int), .one (.imm (refE.f ((pairS l p).at_ ((pairS l p).n - 1 - i)) 0))]) ((back_iter (pairS l p)).congr fun i hi => by match i, hi with | 0, _ => rfl) (fun _ => rfl) (fun _ => rfl) rfl trivial ⟨⟨_, rfl, BLe.of_eq rfl⟩, ⟨_, rfl, BLe.of_eq rfl⟩, trivial⟩ (fun j hj => ?_) ?_
  · skip
    refine AW_all good th20 (th20_ok) rfl rfl ?_ ?_
    · repeat' (first | exact trivial | exact rfl | exact (fun _ _ => rfl) | refine And.intro ?_ ?_ | intro _)
    refine AW_block ?_
    refine AW_eff good th20 (th20_ok) eH2 (eH2_ok) [] rfl rfl ?_ ?_
    · repeat' (first | exact trivial | exact rfl | exact (fun _ _ => rfl) | refine And.intro ?_ ?_ | intro _)
      all_goals exact slOk_lit
    refine blkQ_normal ?_
    refine joinX_end (l := fun _ : Unit => []) (hp := fun _ : Unit => [(0, bkV 109 piE (bkQ (pairS l p) (pairQ l p ((l.n + 1) / 2)) (j + 1)).1), (4, .var 37 [.imm (.val (.int .u64 (bkQ (pairS l p) (pairQ l p ((l.n + 1) / 2)) (j + 1)).2))])]) () [0, 1, 2, 3, 4, 5] rfl rfl trivial ⟨SLe.of_eq rfl, SLe.of_eq rfl, trivial⟩ ⟨⟨rfl, _, rfl, BLe.of_eq rfl⟩, ⟨rfl, _, rfl, BLe.of_eq rfl⟩, trivial⟩ ⟨⟨rfl, _, _, rfl, rfl, doB_le rfl⟩, trivial⟩
  refine AW_seq ?_
  refine AW_all good th20 (th20_ok) rfl rfl ?_ ?_
  · repeat' (first | exact trivial | exact rfl | exact (fun _ _ => rfl) | refine And.intro ?_ ?_ | intro _)
  refine AW_ret ?_
  refine ⟨_, _, rfl, ?_, [0], rfl, EndsE.all (Us := [some (bkV 109 piE (foldF p l).1)]) rfl rfl rfl ?_ ?_⟩
  · repeat' (first | exact trivial | exact rfl | exact (fun _ _ => rfl) | refine And.intro ?_ ?_ | intro _)
  · exact SLe.of_eq rfl
  · exact ⟨⟨_, rfl, BLe.of_eq rfl⟩, trivial⟩

end Go.Proofs.Ytadgjhbhghhbgaa.Abs
