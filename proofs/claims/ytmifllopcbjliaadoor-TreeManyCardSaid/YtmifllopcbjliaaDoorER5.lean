/- What layer 1 promises, by abstract steps. -/
import Derived.Test.YtmifllopcbjliaaDoorER4
import Derived.Test.YtmifllopcbjliaaDoorInp
namespace Go.Proofs.YtmifllopcbjliaaDoor.E
open Go Go.RowKit Go.Proofs.YtmifllopcbjliaaDoor.V
attribute [local go_sem] B_size B_append B_extract mk_B B_toList take_drop_len List.length_drop List.length_take sgn32 sgn64 add32 sub32 mul32 add64 sub64 mul64 mul64_8 and32 or32 xor32 and64 or64 xor64 shl32_run shr32_run shl64_run shr64_run not32 not32' xor32_all w_u32_u8 w_u64_u8 w_i64_u8 w_u8_u32 w_u8_u64 w_u32_u64 w_u64_u32 w_u8_u8 w_u32_u32 w_u64_u64
attribute [local go_sem ↓] run_index_B' add32 sub32 mul32 add64 sub64 mul64 mul64_8 and32 or32 xor32 and64 or64 xor64 shl32_run shr32_run shl64_run shr64_run not32 not32' xor32_all w_u32_u8 w_u64_u8 w_i64_u8 w_u8_u32 w_u8_u64 w_u32_u64 w_u64_u32 w_u8_u8 w_u32_u32 w_u64_u64 w_u64_nat w_u32_nat w_u8_nat

theorem vs_raw {N : Nat → Nat → Prop} {ρ : Env} {w : World} {xs : List Value} {args : List AV} {vs : Array Value} (he : args = xs.map AV.v) (hsz : vs.size = args.length) (h : ∀ (i : Nat) (c : AV) (x : Value), args[i]? = some c → vs[i]? = some x → VRel N ρ w c x) : vs = xs.toArray := by
  subst he
  apply Array.ext
  · simpa using hsz
  · intro i h1 h2
    have h2' : i < xs.length := by simpa using h2
    have := (h i (.v xs[i]) vs[i] (by simp [h2']) (Array.getElem?_eq_getElem h1)).raw
    simpa using this
def ShaIn (G : List (Nat × Array Value)) : Prop := (1, kArr) ∈ G ∧ (0, first.cells) ∈ G
theorem tabs_hsat {A : Amb} {h : Nat → Option AO} {u : Nat → Bool} {ρ : Env} {w : World} (H : HSat A ρ h u w) {G : List (Nat × Array Value)} (hG : A.G = G) (hm : ShaIn G) : Tabs w := by
  obtain ⟨T, h1⟩ := tab_of H hG (g := 1) (arr := kArr) hm.1
  obtain ⟨T', h2⟩ := tab_of H hG (g := 0) (arr := first.cells) hm.2
  refine ⟨⟨(Array.getElem?_eq_some_iff.1 h1).1, (Array.getElem?_eq_some_iff.1 h2).1⟩, fun i hi => cell_at h1 ?_, T', h2⟩
  have hi' : i < kTab.length := hi
  simp [kArr, lget, hi', wv]
theorem pad_fc {G : List (Nat × Array Value)} (n : Nat) (hn : (n : Int) ≤ 9223372036854775807) : FC Tryd.prog G 38 [.v (.int .i64 (n : Int))] [] (sA (pad n)) [] :=
  FC.of_calls Tryd.func38 rfl rfl ⟨trivial, trivial⟩ fun A vs hG HS hsz h => by
    obtain rfl := vs_raw (xs := [.int .i64 (n : Int)]) rfl hsz h
    exact pad_ok n A.w hn
theorem sum_fc {G : List (Nat × Array Value)} (hm : ShaIn G) (l : List UInt8) (hl : (l.length : Int) ≤ 9223372036854775000) : FC Tryd.prog G 29 [sA l] [] (sA (sum l)) [] :=
  FC.of_calls Tryd.func29 rfl rfl ⟨trivial, trivial⟩ fun A vs hG HS hsz h => by
    obtain rfl := vs_raw (xs := [.string (B l)]) rfl hsz h
    exact sum_ok l A.w (tabs_hsat HS hG hm) hl
end Go.Proofs.YtmifllopcbjliaaDoor.E
