/- How a law's statement is closed: the arguments lie as they lay; the result is true. -/
import Derived.Test.YtabpcmmkmbchnaaA15
import Derived.ProofKit
import Derived.OpenShut
import Derived.ReadAgain
import Derived.Below
set_option linter.unusedVariables false
namespace Go.Proofs.Ytabpcmmkmbchnaa.AI
open Go Go.ChangeShapes Go.WideShapes Go.ChangeAt Go.RowKit

theorem evo_below [Val] {φ φ' : Emb} {w w' : World} {h : List Blk} (e : Evo (hf []) φ w (hf h) φ' w') : Below w.heap.size w w' :=
  ⟨e.ext.os, e.ext.tape, e.ext.output, e.ext.size, fun b hb => e.ext.keep b hb own_nil⟩

section
variable {H : Type} {enc : TypeId × Value → H} {P : Program}

theorem trodAll_carry {w w' : World} {sp : Nat → Bool} : ∀ {ts : List TypeId} {vs : List Value} {ds : List (DataW H)} {ps : List MemPlace},
    DataW.TrodAll enc P w 0 sp true ts vs ds ps → (∀ p ∈ ps, w.sameAt w' p) → DataW.TrodAll enc P w' 0 sp true ts vs ds ps
  | [], [], [], _, h, _ => h
  | _ :: _, _ :: _, _ :: _, _, ⟨p, q, ⟨n, h1⟩, h2, e⟩, hs =>
    ⟨p, q, ⟨n, DataW.trod_carry n _ _ _ h1 (fun x hx => hs x (by rw [e]; exact List.mem_append_left _ hx))⟩, trodAll_carry h2 (fun x hx => hs x (by rw [e]; exact List.mem_append_right _ hx)), e⟩

theorem law_post (hl : laidOutB P = true) (hm : mapsRowed P = true)
    (hz : ((List.range P.types.size).all fun t => match P.underlying t with | some (.slice e) => decide (0 < P.cellsOf e) | _ => true) = true)
    {f : Func} {s : ChangeSpec} {apart fresh handsOn again : Bool} {W W' : World} {args : Array Value} {ds gs : List (DataW H)} {before : List MemPlace} {tb : TypeId}
    (hts : ∀ t ∈ f.params.toList, t < P.types.size) (hvars0 : s.vars = []) (hfn : s.fn H (ds ++ gs) = { results := [.lit (.bool true)], args := ds })
    (hW : DataW.Whole enc P f.params.toList s.vars apart W args.toList ds gs before) (hres : f.resultTypes = #[tb]) (htb : P.underlying tb = some .bool)
    (hb : Below W.heap.size W W') : s.post enc P f apart fresh handsOn again W args (.bool true) W' := by
  have hlt := hW.lt
  have hW' := hW
  obtain ⟨p, q, hA, hV, he, hfz, hnd⟩ := hW
  rw [hvars0] at hV
  obtain ⟨rfl, rfl⟩ := trodVars_none hV
  rw [List.append_nil] at he; subst he
  have hsame : ∀ x ∈ before, W.sameAt W' x := fun x hx => hb.same (hlt x hx)
  have hargs : ∀ sp : Nat → Bool, (∀ x ∈ before, sp x.block = true) → DataW.TrodAll enc P W' 0 sp true f.params.toList args.toList (s.fn H (ds ++ [])).args before := by
    intro sp hsp
    rw [hfn]
    exact (trodAll_carry hA hsame).respare (kids_rows hl hm) (slices_full_of P hz) hts hsp
  have hvs : ∀ sp : Nat → Bool, DataW.TrodVars enc P W' sp s.vars (s.fn H (ds ++ [])).vars [] := by
    intro sp
    rw [hvars0, hfn]
    rfl
  have hr : ∀ (b : Nat) (sp : Nat → Bool) (hd : Bool), DataW.TrodAll enc P W' b sp hd f.resultTypes.toList ((Value.bool true).resultList f.resultTypes.size) (s.fn H (ds ++ [])).results [] := by
    intro b sp hd
    rw [hfn, hres]
    exact trodAll_cons_mk (shut_bool htb _) trodAll_mk0
  have hok : ∀ (j : Nat) (t : TypeId) (r : Value), f.resultTypes[j]? = some t → ((Value.bool true).resultList f.resultTypes.size)[j]? = some r → Value.okWide P W' .any 0 t r := by
    exact ok_one hres rfl (okWide_bool_mk htb _)
  have hold : ∀ x ∈ before, (fun b => decide (b < W.heap.size)) x.block = true := fun x hx => by simpa using hlt x hx
  refine ⟨ds, [], before, [], before, [], hW', hr _ _ _, hargs _ hold, hvs _, hb.frame _, fun _ => ⟨hok, _, _, ([] ++ before) ++ [], ⟨[] ++ before, [], trodAll_append (hargs _ (fun _ _ => rfl)) (hr _ _ _), hvs _, rfl, ?_, ?_⟩, ?_⟩⟩
  · intro b off hx
    have hx' : MemPlace.cell b off ∈ before := by simpa using hx
    rw [hb.frozen (p := ⟨b, off, none⟩) (hlt _ hx')]
    exact hfz b off hx'
  · intro ha
    simpa using hnd ha
  · intro x hx _
    simpa using hx

end

end Go.Proofs.Ytabpcmmkmbchnaa.AI
