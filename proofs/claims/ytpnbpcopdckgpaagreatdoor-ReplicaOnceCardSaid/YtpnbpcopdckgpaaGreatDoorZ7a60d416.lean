import Derived.Test.YtpnbpcopdckgpaaGreatDoorZ289b31ad
import Derived.Test.YtpnbpcopdckgpaaGreatDoorZa48715c1
import Derived.Test.YtpnbpcopdckgpaaGreatDoorZ03295c72
import Derived.Test.YtpnbpcopdckgpaaGreatDoorCards
import Derived.Test.YtpnbpcopdckgpaaGreatDoorTie
import Derived.ProofKit
import Derived.OpenShut
import Derived.Deep.DeepHandedRow
import Derived.SizedLaws
import Derived.SliceStrings
import Derived.Test.YtpnbpcopdckgpaaGreatDoorZcf4f46ed
section
namespace Go.Proofs.YtpnbpcopdckgpaaGreatDoor.V
open Go Go.RowKit
def bulkL (ps : List (List UInt8)) : Nat := (ps.map (·.length + 1)).sum
end Go.Proofs.YtpnbpcopdckgpaaGreatDoor.V
end
section
namespace Go.Proofs.YtpnbpcopdckgpaaGreatDoor.V
open Go Go.RowKit Go.WideShapes Go.ChangeShapes Go.ChangeAt

theorem own : ownKnob Tryz.prog.godebug = none := by kernel_rfl
theorem laidOut : laidOutB Tryz.prog = true := by kernel_rfl

theorem k_data : (Rows.laid_voussoir_sha_k : DataW Unit) = Lib.tabData .u32 (kTab.map U32) := by kernel_rfl
theorem first_data : (Rows.laid_voussoir_sha_first : DataW Unit) = Lib.tabData .u32 (first.words.map U32) := by kernel_rfl
theorem k_global : Tryz.prog.globalNamed "voussoir/sha.k" = some 1 := by kernel_rfl
theorem first_global : Tryz.prog.globalNamed "voussoir/sha.first" = some 0 := by kernel_rfl

def kCells : Array Value := (kTab.map wv).toArray
def layK : Obj → Obj
 | .cells _ t frozen => .cells kCells t frozen
 | o => o
def layFirst : Obj → Obj
 | .cells _ t frozen => .cells first.cells t frozen
 | o => o
noncomputable def laidWorld (os : Os) : World :=
 { World.holding Tryz.prog os ⟨#[], #[], []⟩ with heap := ((World.holding Tryz.prog os ⟨#[], #[], []⟩).heap.modify 1 layK).modify 0 layFirst }

section
variable {H : Type} {enc : TypeId × Value → H} {P : Program}
theorem post_of_below {f : Func} {s : ChangeSpec} {apart fresh handsOn again : Bool} {W W' : World} {args : Array Value} {v : Value} {ds gs : List (DataW H)} {before pa pv : List MemPlace}
  (hW : DataW.Whole enc P f.params.toList s.vars apart W args.toList ds gs before)
  (hres : ∀ (b : Nat) (sp : Nat → Bool) (hd : Bool), DataW.TrodAll enc P W' b sp hd f.resultTypes.toList (v.resultList f.resultTypes.size) (s.fn H (ds ++ gs)).results [])
  (hargs : ∀ sp : Nat → Bool, (∀ p ∈ before, sp p.block = true) → DataW.TrodAll enc P W' 0 sp true f.params.toList args.toList (s.fn H (ds ++ gs)).args pa)
  (hvars : ∀ sp : Nat → Bool, (∀ p ∈ before, sp p.block = true) → DataW.TrodVars enc P W' sp s.vars (s.fn H (ds ++ gs)).vars pv)
  (hps : before = pa ++ pv) (hb : Below W.heap.size W W')
  (hok : ∀ (j : Nat) (t : TypeId) (r : Value), f.resultTypes[j]? = some t → (v.resultList f.resultTypes.size)[j]? = some r → Value.okWide P W' .any 0 t r) :
  s.post enc P f apart fresh handsOn again W args v W' := by
 have hlt : ∀ p ∈ before, p.block < W.heap.size := fun p hp => hW.lt p hp
 have hold : ∀ p ∈ before, (fun b => decide (b < W.heap.size)) p.block = true := fun p hp => by simpa using hlt p hp
 refine ⟨ds, gs, before, [], pa, pv, hW, hres _ _ _, hargs _ hold, hvars _ hold, World.keptBut_mono (fun p hp => ⟨hp, ?_⟩) (hb.frame (· ∈ before)), fun _ => ?_⟩
 ·
  rw [hps, List.mem_append] at hp
  exact Or.inr hp
 ·
  obtain ⟨_, _, _, _, _, hz, hn⟩ := hW
  refine ⟨hok, _, _, ([] ++ pa) ++ pv, ⟨[] ++ pa, pv, trodAll_append (hargs _ (fun _ _ => rfl)) (hres _ _ _), hvars _ (fun _ _ => rfl), rfl, ?_, ?_⟩, ?_⟩
  ·
   intro b off hp
   have hin : MemPlace.cell b off ∈ before := by rw [hps]; simpa using hp
   rw [hb.frozen (hlt _ hin)]
   exact hz b off hin
  ·
   intro ha
   have := hn ha
   rw [hps] at this
   simpa using this
  ·
   intro p hp _
   rw [hps]
   simpa using hp
end

theorem stays {H : Type} {enc : TypeId × Value → H} {W W' : World} {t : TypeId} {v : Value} {d : DataW H} {ps : List MemPlace} (hr : Tryz.prog.readableRec t = true) (hrow : t < Tryz.prog.types.size)
  (h : DataW.Trod enc Tryz.prog W 0 (fun _ => true) true t v d ps) (hb : Below W.heap.size W W') (hlt : ∀ x ∈ ps, x.block < W.heap.size) (sp : Nat → Bool) (hsp : ∀ x ∈ ps, sp x.block = true) :
  DataW.Trod enc Tryz.prog W' 0 sp true t v d ps := WideElems.Trod_stays laidOut hr hrow h (fun x hx => hb.same (hlt x hx)) hsp

end Go.Proofs.YtpnbpcopdckgpaaGreatDoor.V
end
section
namespace Go.Proofs.YtpnbpcopdckgpaaGreatDoor.E
open Go Go.RowKit Go.WideShapes Go.ChangeShapes Go.ChangeAt Go.Proofs.YtpnbpcopdckgpaaGreatDoor.V

def tabB : List (Nat × Array Value) := [(3, kArr), (1, kArr), (0, first.cells)]
def tabR : List (Nat × Array Value) := (2, first.cells) :: tabB
def RB (w : World) : Prop := ∀ x ∈ tabB, ∃ T, w.heap[x.1]? = some (.cells x.2 T (0, 0))
def RT (w : World) : Prop := ∀ x ∈ tabR, ∃ T, w.heap[x.1]? = some (.cells x.2 T (0, 0))
theorem shaInR : ShaIn tabR := ⟨by simp [tabR, tabB], by simp [tabR, tabB]⟩
theorem kInR : (3, kArr) ∈ tabR := by simp [tabR, tabB]
theorem fInR : (2, first.cells) ∈ tabR := by simp [tabR]
theorem rk_data : (Rows.laid_voussoir_voussoirref01_k : DataW Unit) = Lib.tabData .u32 (kTab.map U32) := by kernel_rfl
theorem rfirst_data : (Rows.laid_voussoir_voussoirref01_first : DataW Unit) = Lib.tabData .u32 (first.words.map U32) := by kernel_rfl
theorem rk_global : Tryz.prog.globalNamed "voussoir/voussoirref01.k" = some 3 := by kernel_rfl
theorem rfirst_global : Tryz.prog.globalNamed "voussoir/voussoirref01.first" = some 2 := by kernel_rfl
theorem kmap : ((kTab.map U32).map fun z => Value.int .u32 z).toArray = kArr := by rw [List.map_map]; rfl

theorem tabB_of {W : World} {laid : List (String × DataW Unit)} (h : laidMetH Tryz.prog laid W) (h1 : ("voussoir/sha.k", Rows.laid_voussoir_sha_k) ∈ laid) (h2 : ("voussoir/sha.first", Rows.laid_voussoir_sha_first) ∈ laid)
  (h3 : ("voussoir/voussoirref01.k", Rows.laid_voussoir_voussoirref01_k) ∈ laid) : RB W := by
 rw [k_data] at h1
 rw [first_data] at h2
 rw [rk_data] at h3
 obtain ⟨T1, hk⟩ := laid_tab h h1 (by decide) k_global (t := 169) (by kernel_rfl) Tryz.underlying169 Tryz.underlying120 (by kernel_rfl) (by kernel_rfl)
 obtain ⟨T2, hf⟩ := laid_tab h h2 (by decide) first_global (t := 122) (by kernel_rfl) Tryz.underlying122 Tryz.underlying120 (by kernel_rfl) (by kernel_rfl)
 obtain ⟨T3, hk'⟩ := laid_tab h h3 (by decide) rk_global (t := 169) (by kernel_rfl) Tryz.underlying169 Tryz.underlying120 (by kernel_rfl) (by kernel_rfl)
 rw [kmap] at hk hk'
 intro x hx
 simp only [tabB, List.mem_cons, List.not_mem_nil, or_false] at hx
 rcases hx with rfl | rfl | rfl
 · exact ⟨T3, hk'⟩
 · exact ⟨T1, hk⟩
 · exact ⟨T2, hf⟩
theorem tabR_of {W : World} {laid : List (String × DataW Unit)} (h : laidMetH Tryz.prog laid W) (h1 : ("voussoir/sha.k", Rows.laid_voussoir_sha_k) ∈ laid) (h2 : ("voussoir/sha.first", Rows.laid_voussoir_sha_first) ∈ laid)
  (h3 : ("voussoir/voussoirref01.k", Rows.laid_voussoir_voussoirref01_k) ∈ laid) (h4 : ("voussoir/voussoirref01.first", Rows.laid_voussoir_voussoirref01_first) ∈ laid) : RT W := by
 rw [rfirst_data] at h4
 obtain ⟨T4, hf'⟩ := laid_tab h h4 (by decide) rfirst_global (t := 121) (by kernel_rfl) Tryz.underlying121 Tryz.underlying120 (by kernel_rfl) (by kernel_rfl)
 intro x hx
 rcases List.mem_cons.1 hx with rfl | hx
 · exact ⟨T4, hf'⟩
 · exact tabB_of h h1 h2 h3 x hx

noncomputable def laidWorldR (os : Os) : World :=
 { laidWorld os with heap := ((laidWorld os).heap.modify 3 layK).modify 2 layFirst }

end Go.Proofs.YtpnbpcopdckgpaaGreatDoor.E
end
section
namespace Go.Proofs.YtpnbpcopdckgpaaGreatDoor.E
open Go Go.RowKit Go.WideShapes Go.ChangeShapes Go.ChangeAt Go.Proofs.YtpnbpcopdckgpaaGreatDoor.V
def tabS : List (Nat × Array Value) := [(1, kArr), (0, first.cells)]
def SB (w : World) : Prop := ∀ x ∈ tabS, ∃ T, w.heap[x.1]? = some (.cells x.2 T (0, 0))
inductive Args (w : World) : List AV → List Value → Prop
 | nil : Args w [] []
 | cons {c : AV} {x : Value} {cs : List AV} {xs : List Value} (h : VRel (allN w) noE w c x) (r : Args w cs xs) : Args w (c :: cs) (x :: xs)
theorem Args.get {w : World} : ∀ {cs : List AV} {xs : List Value}, Args w cs xs → cs.length = xs.length ∧ ∀ (i : Nat) (c : AV) (x : Value), cs[i]? = some c → xs[i]? = some x → VRel (allN w) noE w c x
 | _, _, .nil => ⟨rfl, fun i c x hc => by simp at hc⟩
 | _, _, .cons h r => by
  obtain ⟨k1, k2⟩ := r.get
  refine ⟨by simp [k1], fun i c x hc hx => ?_⟩
  cases i with
  | zero => cases hc; cases hx; exact h
  | succ i => exact k2 i c x hc hx
theorem FC.callsA {P : Program} {G : List (Nat × Array Value)} {f : FuncId} {args : List AV} {r : Value} (F : FC P G f args [] (.v r) []) {w : World} (hT : ∀ x ∈ G, ∃ T, w.heap[x.1]? = some (.cells x.2 T (0, 0))) {xs : List Value} (h : Args w args xs) :
  Calls P f xs.toArray w fun e w' => e = .returned r ∧ Fr [] w w' :=
 F.calls w hT xs.toArray (by simp [h.get.1]) fun i c x hc hx => h.get.2 i c x hc (by simpa using hx)
theorem Strs.len {w : World} {v : Value} {ps : List (List UInt8)} (h : Strs w v ps) : (ps.length : Int) ≤ 9223372036854775807 := by
 obtain ⟨a, cap, _, h1, h2, _⟩ := h
 unfold maxLen at h2
 omega
end Go.Proofs.YtpnbpcopdckgpaaGreatDoor.E
end
