/-
  FROM A CONTRACT OF A LAW TO ITS ROW's STATEMENT: what was there stays, so the arguments read as they did; the answer is true. No program in sight.
-/
import Derived.Test.YtndfcbcmeeemfaaB7
import Derived.ProofKit
import Derived.OpenShut
import Derived.WideKeyArgs
import Derived.ChangeSame
import Derived.JoinedOf
import Derived.JoinedAt
import Derived.Lib.SmallJoins
namespace Go.Proofs.Ytndfcbcmeeemfaa.Abs
open Go Go.ChangeShapes Go.WideShapes Go.ChangeAt Go.RowKit

def noO : Nat → Prop := fun _ => False

section
variable {H : Type} {enc : TypeId × Value → H} {P : Program}

theorem ext_sameAt {w w' : World} {μ : Nat → Option Nat} (h : Ext noO w noO noneμ w' noO μ) {p : MemPlace} (hp : p.block < w.heap.size) : w.sameAt w' p := by
  cases p with
  | cell b off => exact World.cell?_of_block (h.keep b hp id)
  | map b => exact h.keep b hp id

theorem ext_kept {w w' : World} {μ : Nat → Option Nat} (h : Ext noO w noO noneμ w' noO μ) (may : MemPlace → Prop) : w.keptBut w' may := by
  refine ⟨h.os, h.output, fun i hi => ?_⟩
  rw [h.keep i hi id]
  cases w.heap[i]? with
  | none => rfl
  | some o => cases o <;> first | exact ⟨rfl, rfl, rfl, fun _ _ => rfl⟩ | exact .inr ⟨rfl, rfl⟩ | rfl

theorem trodAll_stays (hl : laidOutB P = true) {W W' : World} {sp : Nat → Bool} : ∀ (ts : List TypeId) (vs : List Value) (ds : List (DataW H)) (ps : List MemPlace), (∀ t ∈ ts, P.readableRec t = true ∧ t < P.types.size) →
    DataW.TrodAll enc P W 0 (fun _ => true) true ts vs ds ps → (∀ p ∈ ps, W.sameAt W' p) → (∀ p ∈ ps, sp p.block = true) → DataW.TrodAll enc P W' 0 sp true ts vs ds ps
  | [], vs, ds, ps, _, h, _, _ => by
    obtain ⟨rfl, rfl, rfl⟩ := trodAll_nil h
    exact trodAll_mk0
  | t :: ts, vs, ds, ps, ht, h, h1, h2 => by
    obtain ⟨v, vs', d, ds', p, q, rfl, rfl, rfl, h3, h4⟩ := trodAll_cons h
    have := ht t (by simp)
    exact trodAll_cons_mk (WideElems.Trod_stays hl this.1 this.2 h3 (fun x hx => h1 x (by simp [hx])) fun x hx => h2 x (by simp [hx]))
      (trodAll_stays hl ts vs' ds' q (fun t ht' => ht t (by simp [ht'])) h4 (fun x hx => h1 x (by simp [hx])) fun x hx => h2 x (by simp [hx]))

/-- A law's end. -/
theorem law_post {f : Func} {s : ChangeSpec} {W W' : World} {args : Array Value} {ds gs : List (DataW H)} {before : List MemPlace} {tb : TypeId} {μ : Nat → Option Nat} (hl : laidOutB P = true) (hr : ∀ t ∈ f.params.toList, P.readableRec t = true ∧ t < P.types.size) (hv : s.vars = [])
    (hrt : f.resultTypes = #[tb]) (hb : P.underlying tb = some .bool) (hW : DataW.Whole enc P f.params.toList s.vars false W args.toList ds gs before)
    (hargs : (s.fn H (ds ++ gs)).args = ds) (hres : (s.fn H (ds ++ gs)).results = [.lit (.bool true)]) (hvar : (s.fn H (ds ++ gs)).vars = []) (hext : Ext noO W noO noneμ W' noO μ) : s.post enc P f false true false false W args (.bool true) W' := by
  have hW' := hW
  obtain ⟨p, q, hA, hV, rfl, hfz, hnd⟩ := hW
  rw [hv] at hV
  obtain ⟨rfl, rfl⟩ := trodVars_none hV
  refine post_of_same (pa := p) (pv := []) hW' (fun _ _ _ => ?_) (fun sp hsp => ?_) (fun _ _ => ?_) rfl (ext_kept hext _) hext.frz ?_
  · rw [hrt, hres]
    exact trodAll_cons_mk (shut_bool hb _) trodAll_mk0
  · rw [hargs]
    exact trodAll_stays hl _ _ _ _ hr hA (fun x hx => ext_sameAt hext (hW'.lt x (by simp [hx]))) fun x hx => hsp x (by simp [hx])
  · rw [hv, hvar]; rfl
  · exact ok_one (t := tb) hrt rfl (okWide_bool_mk hb _)

/-- A pure call, from a world in which nothing is owned. -/
theorem pcall_law {f : FuncId} {args : List CV} (h : PCall P f args (.cv (ibool true))) {W : World} {vals : List Value} (hA : TRel W noO noneμ args vals) : Calls P f vals.toArray W fun e W' => e = .returned (.bool true) ∧ Ext noO W noO noneμ W' noO noneμ := by
  refine (h noO W vals (fun _ h => h.elim) hA).mono ?_
  rintro e W' ⟨v, rfl, hext, hs⟩
  have : v = .bool true := hs.1
  subst this
  exact ⟨rfl, hext⟩

theorem TRel.nil {w : World} {O : Nat → Prop} {μ : Nat → Option Nat} : TRel w O μ [] [] := ⟨rfl, fun i x u h => by simp at h⟩
theorem TRel.cons {w : World} {O : Nat → Prop} {μ : Nat → Option Nat} {x : CV} {u : Value} {l : List CV} {vs : List Value} (hx : CRel w O μ x u) (h : TRel w O μ l vs) : TRel w O μ (x :: l) (u :: vs) := by
  refine ⟨by simp [h.1], fun i y v h1 h2 => ?_⟩
  cases i with
  | zero => simp at h1 h2; subst h1; subst h2; exact hx
  | succ i => simp at h1 h2; exact h.2 i y v h1 h2

theorem crel_int {w : World} {O : Nat → Prop} {μ : Nat → Option Nat} (k : IntKind) (n : Int) : CRel w O μ (ione (.int k n)) (.int k n) := ⟨rfl, rfl⟩
theorem arel_int {w : World} {O : Nat → Prop} {μ : Nat → Option Nat} (k : IntKind) (n : Int) : ARel w O μ (.imm (.val (.int k n))) (.int k n) := ⟨rfl, rfl⟩
end
end Go.Proofs.Ytndfcbcmeeemfaa.Abs
