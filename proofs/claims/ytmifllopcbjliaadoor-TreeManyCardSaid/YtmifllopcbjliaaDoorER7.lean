/- What later layers use of layer 1, by abstract steps: Input and Tag of lists of texts. -/
import Derived.Test.YtmifllopcbjliaaDoorER6
import Derived.Test.YtmifllopcbjliaaDoorE15
import Derived.Test.YtmifllopcbjliaaDoorPl1
namespace Go.Proofs.YtmifllopcbjliaaDoor.E
open Go Go.RowKit Go.Proofs.YtmifllopcbjliaaDoor.V
theorem strs_of {N : Nat → Nat → Prop} {ρ : Env} {w : World} {ps : List (List UInt8)} {v : Value} (h : VRel N ρ w (.sl none ps.length (ps.map sA)) v) (hN : ∀ b o, N b o → b < w.heap.size) : Strs w v ps := by
  cases h with
  | sl o n cs a cap vals hc h ho hn hz hm =>
    refine ⟨a, cap, rfl, hn, hm, fun i hi => ?_⟩
    obtain ⟨_, b, off, ha, hx, hnn⟩ := hc i (by simpa using hi)
    have hv := (h i (.v (.string (B (sget ps i)))) (by simp [sget, hi])).raw
    refine ⟨b, off, ha, hN _ _ hnn, ?_⟩
    rw [hx, hv]
    rfl
theorem vrel_of {w : World} {ps : List (List UInt8)} {v : Value} (h : Strs w v ps) : VRel (allN w) noE w (.sl none ps.length (ps.map sA)) v := by
  obtain ⟨a, cap, rfl, h1, h2, hc⟩ := h
  refine .sl none _ _ a cap (fun i => sv (sget ps i)) (fun i hi => ?_) (fun i c hc' => ?_) (fun k hk => by cases hk) h1 (fun ha => ?_) h2
  · obtain ⟨b, off, ha, hb, hx⟩ := hc i (by simpa using hi)
    exact ⟨rfl, b, off, ha, hx, hb⟩
  · rw [List.getElem?_map] at hc'
    cases hp : ps[i]? with
    | none => rw [hp] at hc'; cases hc'
    | some p =>
      rw [hp] at hc'
      cases hc'
      have : sget ps i = p := by simp [sget, hp]
      show VRel _ _ _ _ (sv (sget ps i))
      rw [this]
      exact .v _
  · cases hps : ps with
    | nil => rfl
    | cons p r =>
      obtain ⟨b, off, ha', _⟩ := hc 0 (by simp [hps])
      rw [ha] at ha'
      cases ha'
theorem fit_cells (n : Nat) (l : List UInt8) : ((splice (List.replicate n (.v (.int .u8 0))) 0 ((l.take n).map bA)).drop 0).take n = (fit n l).map bA := by
  have h1 : (l.take n).length ≤ n := by simp; omega
  have h0 : (.v (.int .u8 0) : AV) = bA 0 := rfl
  unfold splice fit
  rw [h0]
  generalize l.take n = m at *
  rw [List.take_zero, List.nil_append, List.drop_zero, List.length_map, Nat.zero_add, List.drop_replicate, List.map_append, List.map_replicate, List.take_of_length_le]
  simp
  omega
theorem two {vs : Array Value} (h : vs.size = 2) : ∃ a b, vs = #[a, b] := by
  obtain ⟨l⟩ := vs
  match l, h with
  | [a, b], _ => exact ⟨a, b, rfl⟩
theorem input_fc {G : List (Nat × Array Value)} (d : UInt8) (ps : List (List UInt8)) (hL : (input d ps).length ≤ 140737488355328) :
    FC Tryd.prog G 42 [.v (.int .u8 (U8 d)), .sl none ps.length (ps.map sA)] [] (sA (input d ps)) [] :=
  FC.of_calls Tryd.func42 rfl rfl ⟨trivial, ⟨by simp, belL_s _ _⟩, trivial⟩ fun A vs hG HS hsz h => by
    obtain ⟨a, v, rfl⟩ := two hsz
    obtain rfl := (h 0 _ _ rfl rfl).raw
    exact input_ok d v ps A.w (strs_of (h 1 _ _ rfl rfl) fun b o hb => hb.1) hL
end Go.Proofs.YtmifllopcbjliaaDoor.E
