/- What layer 1 promises, by abstract steps. -/
import Derived.Test.YtkhhhdjpkhnmkaaDoorER4
import Derived.Test.YtkhhhdjpkhnmkaaDoorLaw1
import Derived.Test.YtkhhhdjpkhnmkaaDoorInp
namespace Go.Proofs.YtkhhhdjpkhnmkaaDoor.E
open Go Go.RowKit Go.Proofs.YtkhhhdjpkhnmkaaDoor.V
attribute [local go_sem] B_size B_append B_extract mk_B B_toList take_drop_len List.length_drop List.length_take sgn32 sgn64 add32 sub32 mul32 add64 sub64 mul64 mul64_8 and32 or32 xor32 and64 or64 xor64 shl32_run shr32_run shl64_run shr64_run not32 not32' xor32_all w_u32_u8 w_u64_u8 w_i64_u8 w_u8_u32 w_u8_u64 w_u32_u64 w_u64_u32 w_u8_u8 w_u32_u32 w_u64_u64
attribute [local go_sem ↓] run_index_B' add32 sub32 mul32 add64 sub64 mul64 mul64_8 and32 or32 xor32 and64 or64 xor64 shl32_run shr32_run shl64_run shr64_run not32 not32' xor32_all w_u32_u8 w_u64_u8 w_i64_u8 w_u8_u32 w_u8_u64 w_u32_u64 w_u64_u32 w_u8_u8 w_u32_u32 w_u64_u64 w_u64_nat w_u32_nat w_u8_nat

theorem vs_raw {N : Nat → Nat → Prop} {ρ : Env} {w : World} {xs : List Value} {args : List AV} {vs : Array Value} (he : args = xs.map AV.v) (hsz : vs.size = args.length) (h : ∀ (i : Nat) (c : AV) (x : Value), args[i]? = some c → vs[i]? = some x → VRel N ρ w c x) : vs = xs.toArray := by
  subst he
  apply Array.ext
  · simpa using hsz
  · intro i h1 h2
    have h2' : i < xs.length := by simpa using h2
    have := (h i (.v xs[i]) vs[i] (by simp [h2']) (Array.getElem?_eq_getElem h1)).raw
    simpa using this
def ShaIn (G : List (Nat × Array Value)) : Prop := (3, kArr) ∈ G ∧ (1, first.cells) ∈ G
theorem tabs_hsat {A : Amb} {h : Nat → Option AO} {u : Nat → Bool} {ρ : Env} {w : World} (H : HSat A ρ h u w) {G : List (Nat × Array Value)} (hG : A.G = G) (hm : ShaIn G) : Tabs w := by
  obtain ⟨T, h1⟩ := tab_of H hG (g := 3) (arr := kArr) hm.1
  obtain ⟨T', h2⟩ := tab_of H hG (g := 1) (arr := first.cells) hm.2
  refine ⟨⟨(Array.getElem?_eq_some_iff.1 h1).1, (Array.getElem?_eq_some_iff.1 h2).1⟩, fun i hi => cell_at h1 ?_, T', h2⟩
  have hi' : i < kTab.length := hi
  simp [kArr, lget, hi', wv]
theorem awake_fc {G : List (Nat × Array Value)} (hm : ShaIn G) : FC Tryd.prog G 11 [] [] (.v (.bool true)) [] :=
  FC.of_calls Tryd.func11 rfl rfl trivial fun A vs hG HS hsz h => by
    obtain rfl := vs_raw (xs := []) rfl hsz h
    exact awake_ok A.w (tabs_hsat HS hG hm)
theorem block_fc {G : List (Nat × Array Value)} (hm : ShaIn G) (s b : List UInt8) (hs : s.length = 32) (hb : b.length = 64) : FC Tryd.prog G 14 [sA s, sA b] [] (sA (mixed (readSt s) b).text) [] :=
  FC.of_calls Tryd.func14 rfl rfl ⟨trivial, trivial, trivial⟩ fun A vs hG HS hsz h => by
    obtain rfl := vs_raw (xs := [.string (B s), .string (B b)]) rfl hsz h
    exact block_ok s b A.w (tabs_hsat HS hG hm) hs hb
theorem pad_fc {G : List (Nat × Array Value)} (n : Nat) (hn : (n : Int) ≤ 9223372036854775807) : FC Tryd.prog G 13 [.v (.int .i64 (n : Int))] [] (sA (pad n)) [] :=
  FC.of_calls Tryd.func13 rfl rfl ⟨trivial, trivial⟩ fun A vs hG HS hsz h => by
    obtain rfl := vs_raw (xs := [.int .i64 (n : Int)]) rfl hsz h
    exact pad_ok n A.w hn
theorem sfirst_fc {G : List (Nat × Array Value)} (hm : ShaIn G) : FC Tryd.prog G 17 [] [] (sA first.text) [] :=
  FC.of_calls Tryd.func17 rfl rfl trivial fun A vs hG HS hsz h => by
    obtain rfl := vs_raw (xs := []) rfl hsz h
    exact first_ok A.w (tabs_hsat HS hG hm)
theorem sum_fc {G : List (Nat × Array Value)} (hm : ShaIn G) (l : List UInt8) (hl : (l.length : Int) ≤ 9223372036854775000) : FC Tryd.prog G 16 [sA l] [] (sA (sum l)) [] :=
  FC.of_calls Tryd.func16 rfl rfl ⟨trivial, trivial⟩ fun A vs hG HS hsz h => by
    obtain rfl := vs_raw (xs := [.string (B l)]) rfl hsz h
    exact sum_ok l A.w (tabs_hsat HS hG hm) hl
end Go.Proofs.YtkhhhdjpkhnmkaaDoor.E
