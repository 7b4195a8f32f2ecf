import Derived.Test.YtcojfnjpcpochaaDoorZ609ce28e
import Derived.Test.YtcojfnjpcpochaaDoorZc0705748
section
namespace Go.Proofs.YtcojfnjpcpochaaDoor.E
open Go Go.RowKit Go.WideShapes Go.ChangeShapes Go.ChangeAt Go.Proofs.YtcojfnjpcpochaaDoor.V
def tabS : List (Nat × Array Value) := [(1, kArr), (0, first.cells)]
def SB (w : World) : Prop := ∀ x ∈ tabS, ∃ T, w.heap[x.1]? = some (.cells x.2 T (0, 0))
theorem shaInS : ShaIn tabS := ⟨by simp [tabS], by simp [tabS]⟩
theorem tabS_of {W : World} {laid : List (String × DataW Unit)} (h : laidMetH Tryd.prog laid W) (h1 : ("voussoir/sha.k", Rows.laid_voussoir_sha_k) ∈ laid) (h2 : ("voussoir/sha.first", Rows.laid_voussoir_sha_first) ∈ laid) : SB W := by
  rw [k_data] at h1
  rw [first_data] at h2
  obtain ⟨T1, hk⟩ := laid_tab h h1 (by decide) k_global (t := 114) (by kernel_rfl) Tryd.underlying114 Tryd.underlying106 (by kernel_rfl) (by kernel_rfl)
  obtain ⟨T2, hf⟩ := laid_tab h h2 (by decide) first_global (t := 109) (by kernel_rfl) Tryd.underlying109 Tryd.underlying106 (by kernel_rfl) (by kernel_rfl)
  rw [kmap] at hk
  intro x hx
  simp only [tabS, List.mem_cons, List.not_mem_nil, or_false] at hx
  rcases hx with rfl | rfl
  · exact ⟨T1, hk⟩
  · exact ⟨T2, hf⟩
inductive Args (w : World) : List AV → List Value → Prop
  | nil : Args w [] []
  | cons {c : AV} {x : Value} {cs : List AV} {xs : List Value} (h : VRel (allN w) noE w c x) (r : Args w cs xs) : Args w (c :: cs) (x :: xs)
theorem Args.get {w : World} : ∀ {cs : List AV} {xs : List Value}, Args w cs xs → cs.length = xs.length ∧ ∀ (i : Nat) (c : AV) (x : Value), cs[i]? = some c → xs[i]? = some x → VRel (allN w) noE w c x
  | _, _, .nil => ⟨rfl, fun i c x hc => by simp at hc⟩
  | _, _, .cons h r => by
    obtain ⟨k1, k2⟩ := r.get
    refine ⟨by simp [k1], fun i c x hc hx => ?_⟩
    cases i with
    | zero => cases hc; cases hx; exact h
    | succ i => exact k2 i c x hc hx
theorem FC.callsA {P : Program} {G : List (Nat × Array Value)} {f : FuncId} {args : List AV} {r : Value} (F : FC P G f args [] (.v r) []) {w : World} (hT : ∀ x ∈ G, ∃ T, w.heap[x.1]? = some (.cells x.2 T (0, 0))) {xs : List Value} (h : Args w args xs) :
    Calls P f xs.toArray w fun e w' => e = .returned r ∧ Fr [] w w' :=
  F.calls w hT xs.toArray (by simp [h.get.1]) fun i c x hc hx => h.get.2 i c x hc (by simpa using hx)
theorem Strs.len {w : World} {v : Value} {ps : List (List UInt8)} (h : Strs w v ps) : (ps.length : Int) ≤ 9223372036854775807 := by
  obtain ⟨a, cap, _, h1, h2, _⟩ := h
  unfold maxLen at h2
  omega
end Go.Proofs.YtcojfnjpcpochaaDoor.E
end
