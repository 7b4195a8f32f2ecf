import Derived.Test.YtmifllopcbjliaaDoorZf668b864
import Derived.Test.YtmifllopcbjliaaDoorZ14914fe5
import Derived.Test.YtmifllopcbjliaaDoorCards
import Derived.Test.YtmifllopcbjliaaDoorTie
import Derived.ProofKit
import Derived.OpenShut
import Derived.Deep.DeepHandedRow
import Derived.SizedLaws
import Derived.SliceStrings
import Derived.Test.YtmifllopcbjliaaDoorZ897bf3fc
import Derived.Test.YtmifllopcbjliaaDoorZ6a76b27e
import Derived.Test.YtmifllopcbjliaaDoorZa5c5d8fb
section
/- What the claims of this seat share: the tables out of a row's list, a world for the witness, the step's end. -/
namespace Go.Proofs.YtmifllopcbjliaaDoor.V
open Go Go.RowKit Go.WideShapes Go.ChangeShapes Go.ChangeAt

theorem own : ownKnob Tryd.prog.godebug = none := by kernel_rfl
theorem laidOut : laidOutB Tryd.prog = true := by kernel_rfl

theorem k_data : (Rows.laid_voussoir_sha_k : DataW Unit) = Lib.tabData .u32 (kTab.map U32) := by kernel_rfl
theorem first_data : (Rows.laid_voussoir_sha_first : DataW Unit) = Lib.tabData .u32 (first.words.map U32) := by kernel_rfl
theorem k_global : Tryd.prog.globalNamed "voussoir/sha.k" = some 1 := by kernel_rfl
theorem first_global : Tryd.prog.globalNamed "voussoir/sha.first" = some 0 := by kernel_rfl

theorem tabs_of {W : World} {laid : List (String × DataW Unit)} (h : laidMetH Tryd.prog laid W) (h1 : ("voussoir/sha.k", Rows.laid_voussoir_sha_k) ∈ laid) (h2 : ("voussoir/sha.first", Rows.laid_voussoir_sha_first) ∈ laid) : Tabs W := by
  rw [k_data] at h1
  rw [first_data] at h2
  obtain ⟨T1, hk⟩ := laid_tab h h1 (by decide) k_global (t := 58) (by kernel_rfl) Tryd.underlying58 Tryd.underlying47 (by kernel_rfl) (by kernel_rfl)
  obtain ⟨T2, hf⟩ := laid_tab h h2 (by decide) first_global (t := 49) (by kernel_rfl) Tryd.underlying49 Tryd.underlying47 (by kernel_rfl) (by kernel_rfl)
  refine ⟨⟨(Array.getElem?_eq_some_iff.1 hk).1, (Array.getElem?_eq_some_iff.1 hf).1⟩, fun i hi => cell_at hk ?_, T2, hf⟩
  have hi' : i < kTab.length := hi
  simp [lget, hi', wv]

/-- the cells of both tables, for the witness -/
def kCells : Array Value := (kTab.map wv).toArray
/-- a world in which the tables hold what their initialisers lay -/
def layK : Obj → Obj
  | .cells _ t frozen => .cells kCells t frozen
  | o => o
def layFirst : Obj → Obj
  | .cells _ t frozen => .cells first.cells t frozen
  | o => o
noncomputable def laidWorld (os : Os) : World :=
  { World.holding Tryd.prog os ⟨#[], #[], []⟩ with heap := ((World.holding Tryd.prog os ⟨#[], #[], []⟩).heap.modify 1 layK).modify 0 layFirst }

section
variable {H : Type} {enc : TypeId × Value → H} {P : Program}
/-- the row's last step where of the world behind the call 'Below' alone is known -/
theorem post_of_below {f : Func} {s : ChangeSpec} {apart fresh handsOn again : Bool} {W W' : World} {args : Array Value} {v : Value} {ds gs : List (DataW H)} {before pa pv : List MemPlace}
    (hW : DataW.Whole enc P f.params.toList s.vars apart W args.toList ds gs before)
    (hres : ∀ (b : Nat) (sp : Nat → Bool) (hd : Bool), DataW.TrodAll enc P W' b sp hd f.resultTypes.toList (v.resultList f.resultTypes.size) (s.fn H (ds ++ gs)).results [])
    (hargs : ∀ sp : Nat → Bool, (∀ p ∈ before, sp p.block = true) → DataW.TrodAll enc P W' 0 sp true f.params.toList args.toList (s.fn H (ds ++ gs)).args pa)
    (hvars : ∀ sp : Nat → Bool, (∀ p ∈ before, sp p.block = true) → DataW.TrodVars enc P W' sp s.vars (s.fn H (ds ++ gs)).vars pv)
    (hps : before = pa ++ pv) (hb : Below W.heap.size W W')
    (hok : ∀ (j : Nat) (t : TypeId) (r : Value), f.resultTypes[j]? = some t → (v.resultList f.resultTypes.size)[j]? = some r → Value.okWide P W' .any 0 t r) :
    s.post enc P f apart fresh handsOn again W args v W' := by
  have hlt : ∀ p ∈ before, p.block < W.heap.size := fun p hp => hW.lt p hp
  have hold : ∀ p ∈ before, (fun b => decide (b < W.heap.size)) p.block = true := fun p hp => by simpa using hlt p hp
  refine ⟨ds, gs, before, [], pa, pv, hW, hres _ _ _, hargs _ hold, hvars _ hold, World.keptBut_mono (fun p hp => ⟨hp, ?_⟩) (hb.frame (· ∈ before)), fun _ => ?_⟩
  · rw [hps, List.mem_append] at hp
    exact Or.inr hp
  · obtain ⟨_, _, _, _, _, hz, hn⟩ := hW
    refine ⟨hok, _, _, ([] ++ pa) ++ pv, ⟨[] ++ pa, pv, trodAll_append (hargs _ (fun _ _ => rfl)) (hres _ _ _), hvars _ (fun _ _ => rfl), rfl, ?_, ?_⟩, ?_⟩
    · intro b off hp
      have hin : MemPlace.cell b off ∈ before := by rw [hps]; simpa using hp
      rw [hb.frozen (hlt _ hin)]
      exact hz b off hin
    · intro ha
      have := hn ha
      rw [hps] at this
      simpa using this
    · intro p hp _
      rw [hps]
      simpa using hp
end

/-- an argument reads behind the call as it read before -/
theorem stays {H : Type} {enc : TypeId × Value → H} {W W' : World} {t : TypeId} {v : Value} {d : DataW H} {ps : List MemPlace} (hr : Tryd.prog.readableRec t = true) (hrow : t < Tryd.prog.types.size)
    (h : DataW.Trod enc Tryd.prog W 0 (fun _ => true) true t v d ps) (hb : Below W.heap.size W W') (hlt : ∀ x ∈ ps, x.block < W.heap.size) (sp : Nat → Bool) (hsp : ∀ x ∈ ps, sp x.block = true) :
    DataW.Trod enc Tryd.prog W' 0 sp true t v d ps := WideElems.Trod_stays laidOut hr hrow h (fun x hx => hb.same (hlt x hx)) hsp

theorem bulk_strs {H : Type} (l : List ByteArray) : Rows.uptoBulkAll (Go.ChangeShapes.strs l : List (DataW H)) = bulkL (l.map (·.data.toList)) := by
  induction l with
  | nil => rfl
  | cons s l ih =>
    have : Rows.uptoBulkAll (Go.ChangeShapes.strs (s :: l) : List (DataW H)) = s.data.toList.length + 1 + Rows.uptoBulkAll (Go.ChangeShapes.strs l : List (DataW H)) := rfl
    rw [this, ih]
    rfl

/-- a list of texts among the arguments -/
theorem read_strs {H : Type} {enc : TypeId × Value → H} {W : World} {v : Value} {d : DataW H} {ps : List MemPlace}
    (hval : ∃ a l c, v = .slice a l c) (h : DataW.Trod enc Tryd.prog W 0 (fun _ => true) true 22 v d ps) : ∃ ss, Strs W v ss ∧ bulkL ss + 1 ≤ Rows.uptoBulk d := by
  obtain ⟨fuel, hf⟩ := h
  obtain ⟨a0, l0, c0, rfl⟩ := hval
  rw [show (Value.slice a0 l0 c0).cells.toList = [Value.slice a0 l0 c0] from rfl] at hf
  rcases open_strings Tryd.underlying22 Tryd.underlying9 strcells hf with ⟨hcs, hx⟩ | ⟨a, len, cap, ss, hcs, _, hl, hm, hz, hx, hcell, hsz⟩
  · injection hcs with hv
    injection hx with hd _
    rw [hv, hd]
    clear hv hd hf
    exact ⟨[], Strs.nil W, Nat.le_refl _⟩
  · injection hcs with hv
    injection hx with hd _
    rw [hv, hd]
    clear hv hd hf
    simp only [if_true] at hz
    refine ⟨(ss.take len).map (·.data.toList), ⟨some a, cap, ?_, ?_, hm, fun i hi => ?_⟩, ?_⟩
    · rw [List.length_map, List.length_take, Nat.min_eq_left (by omega)]
    · rw [List.length_map, List.length_take]; omega
    · have hi' : i < len := by rw [List.length_map, List.length_take] at hi; omega
      have h0 := hcell 0 (by omega)
      have hii := hcell i (by omega)
      obtain ⟨b, off, spot⟩ := a
      have hs : spot = none := by
        cases spot with
        | none => rfl
        | some x =>
          rw [show ((⟨b, off, some x⟩ : Addr).add 0) = ⟨b, off, some x⟩ from rfl] at h0
          unfold World.cell? at h0
          split at h0 <;> simp at h0
      subst hs
      have hadd : (⟨b, off, none⟩ : Addr).add i = ⟨b, off + i, none⟩ := by unfold Addr.add; split <;> simp_all
      rw [hadd] at hii
      refine ⟨b, off, rfl, ?_, ?_⟩
      · unfold World.cell? at hii
        split at hii
        · rename_i he
          exact (Array.getElem?_eq_some_iff.1 he).1
        · simp at hii
      · rw [hii]
        have h1 : i < ss.length := by omega
        have : sget ((ss.take len).map (·.data.toList)) i = ss[i].data.toList := by
          simp [sget, hi', h1, List.getElem?_take]
        rw [this, sv]
        simp [List.getD, h1, B]
    · have : Rows.uptoBulk (DataW.slice (Go.ChangeShapes.strs (ss.take len)) (Go.ChangeShapes.strs (ss.drop len)) : DataW H) = Rows.uptoBulkAll (Go.ChangeShapes.strs (ss.take len) : List (DataW H)) + Rows.uptoBulkAll (Go.ChangeShapes.strs (ss.drop len) : List (DataW H)) + 1 := rfl
      rw [this, bulk_strs]
      omega
end Go.Proofs.YtmifllopcbjliaaDoor.V
end
section
/- For the claims that use the document's answer too: all four tables out of a row's list, a world for the witness. -/
namespace Go.Proofs.YtmifllopcbjliaaDoor.E
open Go Go.RowKit Go.WideShapes Go.ChangeShapes Go.ChangeAt Go.Proofs.YtmifllopcbjliaaDoor.V

def tabB : List (Nat × Array Value) := [(3, kArr), (1, kArr), (0, first.cells)]
def tabR : List (Nat × Array Value) := (2, first.cells) :: tabB
def RB (w : World) : Prop := ∀ x ∈ tabB, ∃ T, w.heap[x.1]? = some (.cells x.2 T (0, 0))
def RT (w : World) : Prop := ∀ x ∈ tabR, ∃ T, w.heap[x.1]? = some (.cells x.2 T (0, 0))
theorem shaInB : ShaIn tabB := ⟨by simp [tabB], by simp [tabB]⟩
theorem shaInR : ShaIn tabR := ⟨by simp [tabR, tabB], by simp [tabR, tabB]⟩
theorem kInB : (3, kArr) ∈ tabB := by simp [tabB]
theorem kInR : (3, kArr) ∈ tabR := by simp [tabR, tabB]
theorem fInR : (2, first.cells) ∈ tabR := by simp [tabR]
theorem rk_data : (Rows.laid_voussoir_voussoirref01_k : DataW Unit) = Lib.tabData .u32 (kTab.map U32) := by kernel_rfl
theorem rfirst_data : (Rows.laid_voussoir_voussoirref01_first : DataW Unit) = Lib.tabData .u32 (first.words.map U32) := by kernel_rfl
theorem rk_global : Tryd.prog.globalNamed "voussoir/voussoirref01.k" = some 3 := by kernel_rfl
theorem rfirst_global : Tryd.prog.globalNamed "voussoir/voussoirref01.first" = some 2 := by kernel_rfl
theorem kmap : ((kTab.map U32).map fun z => Value.int .u32 z).toArray = kArr := by rw [List.map_map]; rfl

theorem tabB_of {W : World} {laid : List (String × DataW Unit)} (h : laidMetH Tryd.prog laid W) (h1 : ("voussoir/sha.k", Rows.laid_voussoir_sha_k) ∈ laid) (h2 : ("voussoir/sha.first", Rows.laid_voussoir_sha_first) ∈ laid)
    (h3 : ("voussoir/voussoirref01.k", Rows.laid_voussoir_voussoirref01_k) ∈ laid) : RB W := by
  rw [k_data] at h1
  rw [first_data] at h2
  rw [rk_data] at h3
  obtain ⟨T1, hk⟩ := laid_tab h h1 (by decide) k_global (t := 58) (by kernel_rfl) Tryd.underlying58 Tryd.underlying47 (by kernel_rfl) (by kernel_rfl)
  obtain ⟨T2, hf⟩ := laid_tab h h2 (by decide) first_global (t := 49) (by kernel_rfl) Tryd.underlying49 Tryd.underlying47 (by kernel_rfl) (by kernel_rfl)
  obtain ⟨T3, hk'⟩ := laid_tab h h3 (by decide) rk_global (t := 58) (by kernel_rfl) Tryd.underlying58 Tryd.underlying47 (by kernel_rfl) (by kernel_rfl)
  rw [kmap] at hk hk'
  intro x hx
  simp only [tabB, List.mem_cons, List.not_mem_nil, or_false] at hx
  rcases hx with rfl | rfl | rfl
  · exact ⟨T3, hk'⟩
  · exact ⟨T1, hk⟩
  · exact ⟨T2, hf⟩
theorem tabR_of {W : World} {laid : List (String × DataW Unit)} (h : laidMetH Tryd.prog laid W) (h1 : ("voussoir/sha.k", Rows.laid_voussoir_sha_k) ∈ laid) (h2 : ("voussoir/sha.first", Rows.laid_voussoir_sha_first) ∈ laid)
    (h3 : ("voussoir/voussoirref01.k", Rows.laid_voussoir_voussoirref01_k) ∈ laid) (h4 : ("voussoir/voussoirref01.first", Rows.laid_voussoir_voussoirref01_first) ∈ laid) : RT W := by
  rw [rfirst_data] at h4
  obtain ⟨T4, hf'⟩ := laid_tab h h4 (by decide) rfirst_global (t := 48) (by kernel_rfl) Tryd.underlying48 Tryd.underlying47 (by kernel_rfl) (by kernel_rfl)
  intro x hx
  rcases List.mem_cons.1 hx with rfl | hx
  · exact ⟨T4, hf'⟩
  · exact tabB_of h h1 h2 h3 x hx

/-- a world in which all four tables hold what their initialisers lay -/
noncomputable def laidWorldR (os : Os) : World :=
  { laidWorld os with heap := ((laidWorld os).heap.modify 3 layK).modify 2 layFirst }

theorem FC.callsV {P : Program} {G : List (Nat × Array Value)} {f : FuncId} {xs : List Value} {r : Value} (F : FC P G f (xs.map AV.v) [] (.v r) []) (w : World) (hT : ∀ x ∈ G, ∃ T, w.heap[x.1]? = some (.cells x.2 T (0, 0))) : Calls P f xs.toArray w fun e w' => e = .returned r ∧ Fr [] w w' :=
  F.calls w hT xs.toArray (by simp) fun i c x hc hx => by
    have hx' : xs[i]? = some x := by simpa using hx
    have hc' : (xs.map AV.v)[i]? = some c := hc
    rw [List.getElem?_map, hx'] at hc'
    cases hc'
    exact .v x
end Go.Proofs.YtmifllopcbjliaaDoor.E
end
section
/- For the claims: the tables of layer 1 out of a row's list; from promises in abstract words to a call's end. -/
namespace Go.Proofs.YtmifllopcbjliaaDoor.E
open Go Go.RowKit Go.WideShapes Go.ChangeShapes Go.ChangeAt Go.Proofs.YtmifllopcbjliaaDoor.V
def tabS : List (Nat × Array Value) := [(1, kArr), (0, first.cells)]
def SB (w : World) : Prop := ∀ x ∈ tabS, ∃ T, w.heap[x.1]? = some (.cells x.2 T (0, 0))
theorem shaInS : ShaIn tabS := ⟨by simp [tabS], by simp [tabS]⟩
theorem tabS_of {W : World} {laid : List (String × DataW Unit)} (h : laidMetH Tryd.prog laid W) (h1 : ("voussoir/sha.k", Rows.laid_voussoir_sha_k) ∈ laid) (h2 : ("voussoir/sha.first", Rows.laid_voussoir_sha_first) ∈ laid) : SB W := by
  rw [k_data] at h1
  rw [first_data] at h2
  obtain ⟨T1, hk⟩ := laid_tab h h1 (by decide) k_global (t := 58) (by kernel_rfl) Tryd.underlying58 Tryd.underlying47 (by kernel_rfl) (by kernel_rfl)
  obtain ⟨T2, hf⟩ := laid_tab h h2 (by decide) first_global (t := 49) (by kernel_rfl) Tryd.underlying49 Tryd.underlying47 (by kernel_rfl) (by kernel_rfl)
  rw [kmap] at hk
  intro x hx
  simp only [tabS, List.mem_cons, List.not_mem_nil, or_false] at hx
  rcases hx with rfl | rfl
  · exact ⟨T1, hk⟩
  · exact ⟨T2, hf⟩
/-- arguments, one by one -/
inductive Args (w : World) : List AV → List Value → Prop
  | nil : Args w [] []
  | cons {c : AV} {x : Value} {cs : List AV} {xs : List Value} (h : VRel (allN w) noE w c x) (r : Args w cs xs) : Args w (c :: cs) (x :: xs)
theorem Args.get {w : World} : ∀ {cs : List AV} {xs : List Value}, Args w cs xs → cs.length = xs.length ∧ ∀ (i : Nat) (c : AV) (x : Value), cs[i]? = some c → xs[i]? = some x → VRel (allN w) noE w c x
  | _, _, .nil => ⟨rfl, fun i c x hc => by simp at hc⟩
  | _, _, .cons h r => by
    obtain ⟨k1, k2⟩ := r.get
    refine ⟨by simp [k1], fun i c x hc hx => ?_⟩
    cases i with
    | zero => cases hc; cases hx; exact h
    | succ i => exact k2 i c x hc hx
theorem FC.callsA {P : Program} {G : List (Nat × Array Value)} {f : FuncId} {args : List AV} {r : Value} (F : FC P G f args [] (.v r) []) {w : World} (hT : ∀ x ∈ G, ∃ T, w.heap[x.1]? = some (.cells x.2 T (0, 0))) {xs : List Value} (h : Args w args xs) :
    Calls P f xs.toArray w fun e w' => e = .returned r ∧ Fr [] w w' :=
  F.calls w hT xs.toArray (by simp [h.get.1]) fun i c x hc hx => h.get.2 i c x hc (by simpa using hx)
theorem Strs.len {w : World} {v : Value} {ps : List (List UInt8)} (h : Strs w v ps) : (ps.length : Int) ≤ 9223372036854775807 := by
  obtain ⟨a, cap, _, h1, h2, _⟩ := h
  unfold maxLen at h2
  omega
end Go.Proofs.YtmifllopcbjliaaDoor.E
end
section
/- What a bound on the whole input says of texts; the document's tables among a row's. -/
namespace Go.Proofs.YtmifllopcbjliaaDoor.E
open Go Go.RowKit Go.Proofs.YtmifllopcbjliaaDoor.V
theorem bulk_mem {ps : List Txt} : ∀ x ∈ ps, x.length ≤ bulkL ps := by
  induction ps with
  | nil => intro x hx; cases hx
  | cons p ps ih =>
    intro x hx
    rw [bulkL_cons]
    rcases List.mem_cons.1 hx with rfl | hx
    · omega
    · have := ih x hx; omega
theorem mid_bulk {ps : List Txt} (h : bulkL ps ≤ 1048576) : Mid ps := fun x hx => by have := bulk_mem x hx; omega
theorem midC_bulk {x : Txt} {ps : List Txt} (hx : x.length ≤ 1048576) (h : bulkL ps ≤ 1048576) : MidC x ps := fun y hy => by have := bulk_mem y hy; omega
theorem refInR : RefIn tabR := ⟨kInR, fInR⟩
end Go.Proofs.YtmifllopcbjliaaDoor.E
end
