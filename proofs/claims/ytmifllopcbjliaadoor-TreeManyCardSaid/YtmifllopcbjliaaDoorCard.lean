/- What the claims of this seat share: the tables out of a row's list, a world for the witness, the step's end. -/
import Derived.Test.YtmifllopcbjliaaDoorSha3
import Derived.Test.YtmifllopcbjliaaDoorTab
import Derived.Test.YtmifllopcbjliaaDoorBulk
import Derived.Test.YtmifllopcbjliaaDoorCards
import Derived.Test.YtmifllopcbjliaaDoorTie
import Derived.ProofKit
import Derived.OpenShut
import Derived.Deep.DeepHandedRow
import Derived.SizedLaws
import Derived.SliceStrings
namespace Go.Proofs.YtmifllopcbjliaaDoor.V
open Go Go.RowKit Go.WideShapes Go.ChangeShapes Go.ChangeAt

theorem own : ownKnob Tryd.prog.godebug = none := by kernel_rfl
theorem laidOut : laidOutB Tryd.prog = true := by kernel_rfl

theorem k_data : (Rows.laid_voussoir_sha_k : DataW Unit) = Lib.tabData .u32 (kTab.map U32) := by kernel_rfl
theorem first_data : (Rows.laid_voussoir_sha_first : DataW Unit) = Lib.tabData .u32 (first.words.map U32) := by kernel_rfl
theorem k_global : Tryd.prog.globalNamed "voussoir/sha.k" = some 1 := by kernel_rfl
theorem first_global : Tryd.prog.globalNamed "voussoir/sha.first" = some 0 := by kernel_rfl

theorem tabs_of {W : World} {laid : List (String × DataW Unit)} (h : laidMetH Tryd.prog laid W) (h1 : ("voussoir/sha.k", Rows.laid_voussoir_sha_k) ∈ laid) (h2 : ("voussoir/sha.first", Rows.laid_voussoir_sha_first) ∈ laid) : Tabs W := by
  rw [k_data] at h1
  rw [first_data] at h2
  obtain ⟨T1, hk⟩ := laid_tab h h1 (by decide) k_global (t := 58) (by kernel_rfl) Tryd.underlying58 Tryd.underlying47 (by kernel_rfl) (by kernel_rfl)
  obtain ⟨T2, hf⟩ := laid_tab h h2 (by decide) first_global (t := 49) (by kernel_rfl) Tryd.underlying49 Tryd.underlying47 (by kernel_rfl) (by kernel_rfl)
  refine ⟨⟨(Array.getElem?_eq_some_iff.1 hk).1, (Array.getElem?_eq_some_iff.1 hf).1⟩, fun i hi => cell_at hk ?_, T2, hf⟩
  have hi' : i < kTab.length := hi
  simp [lget, hi', wv]

/-- the cells of both tables, for the witness -/
def kCells : Array Value := (kTab.map wv).toArray
/-- a world in which the tables hold what their initialisers lay -/
def layK : Obj → Obj
  | .cells _ t frozen => .cells kCells t frozen
  | o => o
def layFirst : Obj → Obj
  | .cells _ t frozen => .cells first.cells t frozen
  | o => o
noncomputable def laidWorld (os : Os) : World :=
  { World.holding Tryd.prog os ⟨#[], #[], []⟩ with heap := ((World.holding Tryd.prog os ⟨#[], #[], []⟩).heap.modify 1 layK).modify 0 layFirst }

section
variable {H : Type} {enc : TypeId × Value → H} {P : Program}
/-- the row's last step where of the world behind the call 'Below' alone is known -/
theorem post_of_below {f : Func} {s : ChangeSpec} {apart fresh handsOn again : Bool} {W W' : World} {args : Array Value} {v : Value} {ds gs : List (DataW H)} {before pa pv : List MemPlace}
    (hW : DataW.Whole enc P f.params.toList s.vars apart W args.toList ds gs before)
    (hres : ∀ (b : Nat) (sp : Nat → Bool) (hd : Bool), DataW.TrodAll enc P W' b sp hd f.resultTypes.toList (v.resultList f.resultTypes.size) (s.fn H (ds ++ gs)).results [])
    (hargs : ∀ sp : Nat → Bool, (∀ p ∈ before, sp p.block = true) → DataW.TrodAll enc P W' 0 sp true f.params.toList args.toList (s.fn H (ds ++ gs)).args pa)
    (hvars : ∀ sp : Nat → Bool, (∀ p ∈ before, sp p.block = true) → DataW.TrodVars enc P W' sp s.vars (s.fn H (ds ++ gs)).vars pv)
    (hps : before = pa ++ pv) (hb : Below W.heap.size W W')
    (hok : ∀ (j : Nat) (t : TypeId) (r : Value), f.resultTypes[j]? = some t → (v.resultList f.resultTypes.size)[j]? = some r → Value.okWide P W' .any 0 t r) :
    s.post enc P f apart fresh handsOn again W args v W' := by
  have hlt : ∀ p ∈ before, p.block < W.heap.size := fun p hp => hW.lt p hp
  have hold : ∀ p ∈ before, (fun b => decide (b < W.heap.size)) p.block = true := fun p hp => by simpa using hlt p hp
  refine ⟨ds, gs, before, [], pa, pv, hW, hres _ _ _, hargs _ hold, hvars _ hold, World.keptBut_mono (fun p hp => ⟨hp, ?_⟩) (hb.frame (· ∈ before)), fun _ => ?_⟩
  · rw [hps, List.mem_append] at hp
    exact Or.inr hp
  · obtain ⟨_, _, _, _, _, hz, hn⟩ := hW
    refine ⟨hok, _, _, ([] ++ pa) ++ pv, ⟨[] ++ pa, pv, trodAll_append (hargs _ (fun _ _ => rfl)) (hres _ _ _), hvars _ (fun _ _ => rfl), rfl, ?_, ?_⟩, ?_⟩
    · intro b off hp
      have hin : MemPlace.cell b off ∈ before := by rw [hps]; simpa using hp
      rw [hb.frozen (hlt _ hin)]
      exact hz b off hin
    · intro ha
      have := hn ha
      rw [hps] at this
      simpa using this
    · intro p hp _
      rw [hps]
      simpa using hp
end

/-- an argument reads behind the call as it read before -/
theorem stays {H : Type} {enc : TypeId × Value → H} {W W' : World} {t : TypeId} {v : Value} {d : DataW H} {ps : List MemPlace} (hr : Tryd.prog.readableRec t = true) (hrow : t < Tryd.prog.types.size)
    (h : DataW.Trod enc Tryd.prog W 0 (fun _ => true) true t v d ps) (hb : Below W.heap.size W W') (hlt : ∀ x ∈ ps, x.block < W.heap.size) (sp : Nat → Bool) (hsp : ∀ x ∈ ps, sp x.block = true) :
    DataW.Trod enc Tryd.prog W' 0 sp true t v d ps := WideElems.Trod_stays laidOut hr hrow h (fun x hx => hb.same (hlt x hx)) hsp

theorem bulk_strs {H : Type} (l : List ByteArray) : Rows.uptoBulkAll (Go.ChangeShapes.strs l : List (DataW H)) = bulkL (l.map (·.data.toList)) := by
  induction l with
  | nil => rfl
  | cons s l ih =>
    have : Rows.uptoBulkAll (Go.ChangeShapes.strs (s :: l) : List (DataW H)) = s.data.toList.length + 1 + Rows.uptoBulkAll (Go.ChangeShapes.strs l : List (DataW H)) := rfl
    rw [this, ih]
    rfl

/-- a list of texts among the arguments -/
theorem read_strs {H : Type} {enc : TypeId × Value → H} {W : World} {v : Value} {d : DataW H} {ps : List MemPlace}
    (hval : ∃ a l c, v = .slice a l c) (h : DataW.Trod enc Tryd.prog W 0 (fun _ => true) true 22 v d ps) : ∃ ss, Strs W v ss ∧ bulkL ss + 1 ≤ Rows.uptoBulk d := by
  obtain ⟨fuel, hf⟩ := h
  obtain ⟨a0, l0, c0, rfl⟩ := hval
  rw [show (Value.slice a0 l0 c0).cells.toList = [Value.slice a0 l0 c0] from rfl] at hf
  rcases open_strings Tryd.underlying22 Tryd.underlying9 strcells hf with ⟨hcs, hx⟩ | ⟨a, len, cap, ss, hcs, _, hl, hm, hz, hx, hcell, hsz⟩
  · injection hcs with hv
    injection hx with hd _
    rw [hv, hd]
    clear hv hd hf
    exact ⟨[], Strs.nil W, Nat.le_refl _⟩
  · injection hcs with hv
    injection hx with hd _
    rw [hv, hd]
    clear hv hd hf
    simp only [if_true] at hz
    refine ⟨(ss.take len).map (·.data.toList), ⟨some a, cap, ?_, ?_, hm, fun i hi => ?_⟩, ?_⟩
    · rw [List.length_map, List.length_take, Nat.min_eq_left (by omega)]
    · rw [List.length_map, List.length_take]; omega
    · have hi' : i < len := by rw [List.length_map, List.length_take] at hi; omega
      have h0 := hcell 0 (by omega)
      have hii := hcell i (by omega)
      obtain ⟨b, off, spot⟩ := a
      have hs : spot = none := by
        cases spot with
        | none => rfl
        | some x =>
          rw [show ((⟨b, off, some x⟩ : Addr).add 0) = ⟨b, off, some x⟩ from rfl] at h0
          unfold World.cell? at h0
          split at h0 <;> simp at h0
      subst hs
      have hadd : (⟨b, off, none⟩ : Addr).add i = ⟨b, off + i, none⟩ := by unfold Addr.add; split <;> simp_all
      rw [hadd] at hii
      refine ⟨b, off, rfl, ?_, ?_⟩
      · unfold World.cell? at hii
        split at hii
        · rename_i he
          exact (Array.getElem?_eq_some_iff.1 he).1
        · simp at hii
      · rw [hii]
        have h1 : i < ss.length := by omega
        have : sget ((ss.take len).map (·.data.toList)) i = ss[i].data.toList := by
          simp [sget, hi', h1, List.getElem?_take]
        rw [this, sv]
        simp [List.getD, h1, B]
    · have : Rows.uptoBulk (DataW.slice (Go.ChangeShapes.strs (ss.take len)) (Go.ChangeShapes.strs (ss.drop len)) : DataW H) = Rows.uptoBulkAll (Go.ChangeShapes.strs (ss.take len) : List (DataW H)) + Rows.uptoBulkAll (Go.ChangeShapes.strs (ss.drop len) : List (DataW H)) + 1 := rfl
      rw [this, bulk_strs]
      omega
end Go.Proofs.YtmifllopcbjliaaDoor.V
