import Derived.Test.YtmmoadhjlgbmhaaDoorZf8806c20
import Derived.Test.YtmmoadhjlgbmhaaDoorZa92ebee9
import Derived.Laws.Small
import Derived.Laws.Slices
import Derived.Test.YtmmoadhjlgbmhaaDoorZ576aace7
section
/- What layer 1 promises, by abstract steps. -/
namespace Go.Proofs.YtmmoadhjlgbmhaaDoor.E
open Go Go.RowKit Go.Proofs.YtmmoadhjlgbmhaaDoor.V
attribute [local go_sem] B_size B_append B_extract mk_B B_toList take_drop_len List.length_drop List.length_take sgn32 sgn64 add32 sub32 mul32 add64 sub64 mul64 mul64_8 and32 or32 xor32 and64 or64 xor64 shl32_run shr32_run shl64_run shr64_run not32 not32' xor32_all w_u32_u8 w_u64_u8 w_i64_u8 w_u8_u32 w_u8_u64 w_u32_u64 w_u64_u32 w_u8_u8 w_u32_u32 w_u64_u64
attribute [local go_sem ↓] run_index_B' add32 sub32 mul32 add64 sub64 mul64 mul64_8 and32 or32 xor32 and64 or64 xor64 shl32_run shr32_run shl64_run shr64_run not32 not32' xor32_all w_u32_u8 w_u64_u8 w_i64_u8 w_u8_u32 w_u8_u64 w_u32_u64 w_u64_u32 w_u8_u8 w_u32_u32 w_u64_u64 w_u64_nat w_u32_nat w_u8_nat

theorem vs_raw {N : Nat → Nat → Prop} {ρ : Env} {w : World} {xs : List Value} {args : List AV} {vs : Array Value} (he : args = xs.map AV.v) (hsz : vs.size = args.length) (h : ∀ (i : Nat) (c : AV) (x : Value), args[i]? = some c → vs[i]? = some x → VRel N ρ w c x) : vs = xs.toArray := by
  subst he
  apply Array.ext
  · simpa using hsz
  · intro i h1 h2
    have h2' : i < xs.length := by simpa using h2
    have := (h i (.v xs[i]) vs[i] (by simp [h2']) (Array.getElem?_eq_getElem h1)).raw
    simpa using this
def ShaIn (G : List (Nat × Array Value)) : Prop := (1, kArr) ∈ G ∧ (0, first.cells) ∈ G
theorem tabs_hsat {A : Amb} {h : Nat → Option AO} {u : Nat → Bool} {ρ : Env} {w : World} (H : HSat A ρ h u w) {G : List (Nat × Array Value)} (hG : A.G = G) (hm : ShaIn G) : Tabs w := by
  obtain ⟨T, h1⟩ := tab_of H hG (g := 1) (arr := kArr) hm.1
  obtain ⟨T', h2⟩ := tab_of H hG (g := 0) (arr := first.cells) hm.2
  refine ⟨⟨(Array.getElem?_eq_some_iff.1 h1).1, (Array.getElem?_eq_some_iff.1 h2).1⟩, fun i hi => cell_at h1 ?_, T', h2⟩
  have hi' : i < kTab.length := hi
  simp [kArr, lget, hi', wv]
theorem pad_fc {G : List (Nat × Array Value)} (n : Nat) (hn : (n : Int) ≤ 9223372036854775807) : FC Tryd.prog G 54 [.v (.int .i64 (n : Int))] [] (sA (pad n)) [] :=
  FC.of_calls Tryd.func54 rfl rfl ⟨trivial, trivial⟩ fun A vs hG HS hsz h => by
    obtain rfl := vs_raw (xs := [.int .i64 (n : Int)]) rfl hsz h
    exact pad_ok n A.w hn
theorem sum_fc {G : List (Nat × Array Value)} (hm : ShaIn G) (l : List UInt8) (hl : (l.length : Int) ≤ 9223372036854775000) : FC Tryd.prog G 40 [sA l] [] (sA (sum l)) [] :=
  FC.of_calls Tryd.func40 rfl rfl ⟨trivial, trivial⟩ fun A vs hG HS hsz h => by
    obtain rfl := vs_raw (xs := [.string (B l)]) rfl hsz h
    exact sum_ok l A.w (tabs_hsat HS hG hm) hl
end Go.Proofs.YtmmoadhjlgbmhaaDoor.E
end
section
/- The document's own answer for layer 1, by abstract steps: Sum, Input, Tag, and what is refused. -/
namespace Go.Proofs.YtmmoadhjlgbmhaaDoor.E
open Go Go.RowKit Go.Proofs.YtmmoadhjlgbmhaaDoor.V
attribute [local go_sem] B_size B_append B_extract mk_B B_toList take_drop_len List.length_drop List.length_take sgn32 sgn64 add32 sub32 mul32 add64 sub64 mul64 mul64_8 and32 or32 xor32 and64 or64 xor64 shl32_run shr32_run shl64_run shr64_run not32 not32' xor32_all w_u32_u8 w_u64_u8 w_i64_u8 w_u8_u32 w_u8_u64 w_u32_u64 w_u64_u32 w_u8_u8 w_u32_u32 w_u64_u64
attribute [local go_sem ↓] run_index_B' add32 sub32 mul32 add64 sub64 mul64 mul64_8 and32 or32 xor32 and64 or64 xor64 shl32_run shr32_run shl64_run shr64_run not32 not32' xor32_all w_u32_u8 w_u64_u8 w_i64_u8 w_u8_u32 w_u8_u64 w_u32_u64 w_u64_u32 w_u8_u8 w_u32_u32 w_u64_u64 w_u64_nat w_u32_nat w_u8_nat

section
variable {P : Program} {G : List (Nat × Array Value)} {dst : Option Tmp} {ty : TypeId} {pos : String} {aft : Array Edge} {gd : Option (Nat × Bool)}
theorem OpS.strEqT {t t' : TypeId} {x y : Operand} {a : List UInt8} :
    OpS P G ⟨dst, .binOp .eql t x y t', ty, pos, aft, gd⟩ [(x, .v (.string (B a))), (y, .v (.string (B a)))] [] ⟨some (.v (.bool true)), [], []⟩ := by
  have := OpS.strEql (P := P) (G := G) (dst := dst) (ty := ty) (pos := pos) (aft := aft) (gd := gd) (t := t) (t' := t') (x := x) (y := y) (a := a) (b := a)
  simpa using this
theorem OpS.shrN {t t' : TypeId} {x y : Operand} {n j : Nat} {k' : IntKind} {m : Int} (h : m = (j : Int)) (hj : j ≤ 64) :
    OpS P G ⟨dst, .binOp .shr t x y t', ty, pos, aft, gd⟩ [(x, .v (.int .i64 (n : Int))), (y, .v (.int k' m))] [] ⟨some (.v (.int .i64 ((n / 2 ^ j : Nat) : Int))), [], []⟩ := by
  subst h
  refine OpS.binR rfl fun w => ?_
  show (Op.shift .shr .i64 (n : Int) k' (j : Int)).run P w = _
  unfold Op.shift
  rw [if_neg (by omega)]
  show Result.ok (Value.int .i64 ((n : Int).fdiv (2 ^ (min ((j : Int)).toNat 64)))) w = _
  rw [Int.toNat_natCast, Nat.min_eq_left hj, Int.fdiv_eq_ediv_of_nonneg _ (by have := Int.natCast_nonneg (2 ^ j : Nat); push_cast at this; exact this), Int.natCast_ediv, Int.natCast_pow]
  rfl
end

theorem rpadN_fc {G : List (Nat × Array Value)} (n : Int) (hn : n < 0) : FC Tryd.prog G 61 [.v (.int .i64 n)] [] (sA []) [] := by
  refine FC.of_wp [2] Tryd.func61 rfl rfl rfl rfl (by first | trivial | (simp; first | done | fail) | exact ⟨trivial, hbel _⟩) (by first | trivial | (simp; first | done | fail) | exact ⟨trivial, hbel _⟩) (by exact Nat.le_of_ble_eq_true rfl) ?_
  intro A hG hnA hAB
  unfold start
  refine WP.rs hG ?_
  refine Ch.pu gdN (by exact ⟨rfl, trivial⟩) (OpS.assign) (by first | exact trivial | exact ⟨rfl, trivial⟩) rfl ?_
  refine Ch.nil ?_
  refine WP.seq ?_
  refine WP.rs hG ?_
  refine Ch.pu gdN (by exact ⟨rfl, trivial⟩) (OpS.move) (by first | exact trivial | exact ⟨rfl, trivial⟩) rfl ?_
  refine Ch.pu gdN (by exact ⟨rfl, rfl, trivial⟩) (OpS.int (v' := .bool true) rfl (by simp; omega)) (by first | exact trivial | exact ⟨rfl, trivial⟩) rfl ?_
  refine Ch.nil ?_
  refine WP.cond_true rfl ?_
  refine WP.rs hG ?_
  refine Ch.pu gdN (by exact ⟨rfl, trivial⟩) (OpS.assign) (by first | exact trivial | exact ⟨rfl, trivial⟩) rfl ?_
  refine Ch.nil ?_
  refine WP.ret (Ret.one rfl (by first | exact .rfl _ | exact .nil | exact .of_eq (by simp; first | done | fail) | exact AV.wk.sh (by simp; first | done | fail) | exact .untip _ _ _) (by first | trivial | simp [AV.bel]) hnA)
theorem rblockA_fc {G : List (Nat × Array Value)} (s b : List UInt8) (hs : s.length ≠ 32) : FC Tryd.prog G 62 [sA s, sA b] [] (sA []) [] := by
  refine FC.of_wp [4] Tryd.func62 rfl rfl rfl rfl (by first | trivial | (simp; first | done | fail) | exact ⟨trivial, hbel _⟩) (by first | trivial | (simp; first | done | fail) | exact ⟨trivial, hbel _⟩) (by exact Nat.le_of_ble_eq_true rfl) ?_
  intro A hG hnA hAB
  unfold start
  refine WP.rs hG ?_
  refine Ch.pu gdN (by exact ⟨rfl, trivial⟩) (OpS.assign) (by first | exact trivial | exact ⟨rfl, trivial⟩) rfl ?_
  refine Ch.nil ?_
  refine WP.seq ?_
  refine WP.rs hG ?_
  refine Ch.pu gdN (by exact ⟨rfl, trivial⟩) (OpS.move) (by first | exact trivial | exact ⟨rfl, trivial⟩) rfl ?_
  refine Ch.pu gdN (by exact ⟨rfl, trivial⟩) (OpS.lenS rfl) (by first | exact trivial | exact ⟨rfl, trivial⟩) rfl ?_
  refine Ch.pu gdN (by exact ⟨rfl, rfl, trivial⟩) (OpS.int (v' := .bool true) rfl (by simp; omega)) (by first | exact trivial | exact ⟨rfl, trivial⟩) rfl ?_
  refine Ch.pu gdN (by exact ⟨rfl, trivial⟩) (OpS.move) (by first | exact trivial | exact ⟨rfl, trivial⟩) rfl ?_
  refine Ch.skU (gdF rfl rfl rfl) rfl ?_
  refine Ch.skU (gdF rfl rfl rfl) rfl ?_
  refine Ch.skU (gdF rfl rfl rfl) rfl ?_
  refine Ch.pu gdN (by first | exact ⟨rfl, rfl, trivial⟩ | exact ⟨rfl, rfl, rfl, trivial⟩) (OpS.pickT) (by first | exact trivial | exact ⟨rfl, trivial⟩) rfl ?_
  refine Ch.nil ?_
  refine WP.cond_true rfl ?_
  refine WP.rs hG ?_
  refine Ch.pu gdN (by exact ⟨rfl, trivial⟩) (OpS.assign) (by first | exact trivial | exact ⟨rfl, trivial⟩) rfl ?_
  refine Ch.nil ?_
  refine WP.ret (Ret.one rfl (by first | exact .rfl _ | exact .nil | exact .of_eq (by simp; first | done | fail) | exact AV.wk.sh (by simp; first | done | fail) | exact .untip _ _ _) (by first | trivial | simp [AV.bel]) hnA)
theorem rblockB_fc {G : List (Nat × Array Value)} (s b : List UInt8) (hs : s.length = 32) (hb : b.length ≠ 64) : FC Tryd.prog G 62 [sA s, sA b] [] (sA []) [] := by
  refine FC.of_wp [4] Tryd.func62 rfl rfl rfl rfl (by first | trivial | (simp; first | done | fail) | exact ⟨trivial, hbel _⟩) (by first | trivial | (simp; first | done | fail) | exact ⟨trivial, hbel _⟩) (by exact Nat.le_of_ble_eq_true rfl) ?_
  intro A hG hnA hAB
  unfold start
  refine WP.rs hG ?_
  refine Ch.pu gdN (by exact ⟨rfl, trivial⟩) (OpS.assign) (by first | exact trivial | exact ⟨rfl, trivial⟩) rfl ?_
  refine Ch.nil ?_
  refine WP.seq ?_
  refine WP.rs hG ?_
  refine Ch.pu gdN (by exact ⟨rfl, trivial⟩) (OpS.move) (by first | exact trivial | exact ⟨rfl, trivial⟩) rfl ?_
  refine Ch.pu gdN (by exact ⟨rfl, trivial⟩) (OpS.lenS rfl) (by first | exact trivial | exact ⟨rfl, trivial⟩) rfl ?_
  refine Ch.pu gdN (by exact ⟨rfl, rfl, trivial⟩) (OpS.int (v' := .bool false) rfl (by simp [hs]; first | done | fail)) (by first | exact trivial | exact ⟨rfl, trivial⟩) rfl ?_
  refine Ch.pu gdN (by exact ⟨rfl, trivial⟩) (OpS.move) (by first | exact trivial | exact ⟨rfl, trivial⟩) rfl ?_
  refine Ch.pu (by exact gdT rfl rfl) (by exact ⟨rfl, trivial⟩) (OpS.move) (by first | exact trivial | exact ⟨rfl, trivial⟩) rfl ?_
  refine Ch.pu (by exact gdT rfl rfl) (by exact ⟨rfl, trivial⟩) (OpS.lenS rfl) (by first | exact trivial | exact ⟨rfl, trivial⟩) rfl ?_
  refine Ch.pu (by exact gdT rfl rfl) (by exact ⟨rfl, rfl, trivial⟩) (OpS.int (v' := .bool true) rfl (by simp; omega)) (by first | exact trivial | exact ⟨rfl, trivial⟩) rfl ?_
  refine Ch.pu gdN (by first | exact ⟨rfl, rfl, trivial⟩ | exact ⟨rfl, rfl, rfl, trivial⟩) (OpS.pickF) (by first | exact trivial | exact ⟨rfl, trivial⟩) rfl ?_
  refine Ch.nil ?_
  refine WP.cond_true rfl ?_
  refine WP.rs hG ?_
  refine Ch.pu gdN (by exact ⟨rfl, trivial⟩) (OpS.assign) (by first | exact trivial | exact ⟨rfl, trivial⟩) rfl ?_
  refine Ch.nil ?_
  refine WP.ret (Ret.one rfl (by first | exact .rfl _ | exact .nil | exact .of_eq (by simp; first | done | fail) | exact AV.wk.sh (by simp; first | done | fail) | exact .untip _ _ _) (by first | trivial | simp [AV.bel]) hnA)

theorem eat_next (m : Nat) (v : V.St) (l : List UInt8) (h : 64 * m ≤ l.length) : eat (m + 1) v l = mixed (eat m v l) ((l.drop (64 * m)).take 64) := by
  have hx : (l.take (64 * m)).length = 64 * m := by simp; omega
  have h1 := eat_append m 1 v (l.take (64 * m)) (l.drop (64 * m)) hx
  have h0 := eat_append m 0 v (l.take (64 * m)) (l.drop (64 * m)) hx
  rw [List.take_append_drop] at h1 h0
  have h0' : eat m v l = eat m v (l.take (64 * m)) := h0
  rw [h1, h0']
  rfl
theorem sum_eat (l : List UInt8) : ∃ q, (l ++ pad l.length).length = 64 * q ∧ sum l = (eat q first (l ++ pad l.length)).text := by
  have hp := pad_len l.length
  refine ⟨(l ++ pad l.length).length / 64, ?_, rfl⟩
  rw [List.length_append]
  omega
attribute [local irreducible] mixed readSt St.text pad sum
theorem rsum_fc {G : List (Nat × Array Value)} (hk : (3, kArr) ∈ G) (hf : (2, first.cells) ∈ G) (l : List UInt8) (hl : (l.length : Int) ≤ 9223372036854775000) :
    FC Tryd.prog G 42 [sA l] [] (sA (sum l)) [] := by
  refine FC.of_wp [2] Tryd.func42 rfl rfl rfl rfl (by first | trivial | (simp; first | done | fail) | exact ⟨trivial, hbel _⟩) (by first | trivial | (simp; first | done | fail) | exact ⟨trivial, hbel _⟩) (by exact Nat.le_of_ble_eq_true rfl) ?_
  intro A hG hnA hAB
  unfold start
  refine WP.rs hG ?_
  refine Ch.pu gdN (by exact ⟨rfl, trivial⟩) (OpS.assign) (by first | exact trivial | exact ⟨rfl, trivial⟩) rfl ?_
  refine Ch.nil ?_
  refine WP.rs hG ?_
  refine Ch.callP (first_fc hf) gdN (by repeat (first | exact EvL.nil | (apply EvL.cons; exact rfl))) (by exact trivial) (by rfl) rfl ?_
  refine Ch.pu gdN (by exact ⟨rfl, trivial⟩) (OpS.assign) (by first | exact trivial | exact ⟨rfl, trivial⟩) rfl ?_
  refine Ch.nil ?_
  have hp := pad_len l.length
  refine WP.rs hG ?_
  refine Ch.pu gdN (by exact ⟨rfl, trivial⟩) (OpS.move) (by first | exact trivial | exact ⟨rfl, trivial⟩) rfl ?_
  refine Ch.pu gdN (by exact ⟨rfl, trivial⟩) (OpS.move) (by first | exact trivial | exact ⟨rfl, trivial⟩) rfl ?_
  refine Ch.pu gdN (by exact ⟨rfl, trivial⟩) (OpS.lenS rfl) (by first | exact trivial | exact ⟨rfl, trivial⟩) rfl ?_
  refine Ch.callP (rpad_fc l.length (by omega)) gdN (by repeat (first | exact EvL.nil | (apply EvL.cons; exact rfl))) (by exact (And.intro (by first | exact .rfl _ | exact .untip _ _ _ | exact .nil | exact .func _ | exact AV.wk.sh (renL_s _ _) | exact AV.wk.sh (by simp; first | done | fail)) trivial)) (by rfl) rfl ?_
  refine Ch.pu gdN (by exact ⟨rfl, rfl, trivial⟩) (OpS.strAdd (by omega)) (by first | exact trivial | exact ⟨rfl, trivial⟩) rfl ?_
  refine Ch.pu gdN (by exact ⟨rfl, trivial⟩) (OpS.assign) (by first | exact trivial | exact ⟨rfl, trivial⟩) rfl ?_
  refine Ch.nil ?_
  refine WP.seq ?_
  obtain ⟨q, hq, hs⟩ := sum_eat l
  have hpl : (l ++ pad l.length).length ≤ 9223372036854775100 := by rw [List.length_append]; omega
  generalize l ++ pad l.length = X at *
  refine WP.rs hG ?_
  refine Ch.pu gdN (by exact ⟨rfl, trivial⟩) (OpS.assign) (by first | exact trivial | exact ⟨rfl, trivial⟩) rfl ?_
  refine Ch.nil ?_
  refine WP.block ?_
  refine WP.loop (fun k σ => ∃ m ii : Nat, (ii = 64 * m ∧ m + k = q) ∧ σ = ⟨27, ls [(3, sA (eat m first X).text), (4, sA X), (5, .v (.int .i64 (ii : Int)))], lh [], blt 0⟩) (q) (Ent.of [] ?_ ?_ ?_ ?_).se ⟨0, 0, by omega, rfl⟩ ?_
  · exact (fun i hi => by rw [hnA] at hi; simp only [List.length_cons, List.length_nil] at hi ⊢; first | exact absurd hi (Nat.not_lt_zero _) | (revert i; decide))
  · (repeat (first | exact trivial | (refine And.intro ⟨(by first | trivial | (simp; first | done | fail) | exact ⟨trivial, hbel _⟩), _, rfl, (by first | exact .rfl _ | exact .nil | exact .of_eq (by simp; first | done | fail) | exact AV.wk.sh (by simp; first | done | fail) | exact .untip _ _ _)⟩ ?_)))
  · (repeat (first | exact trivial | (refine And.intro ⟨rfl, (by first | trivial | (simp; first | done | fail) | exact ⟨trivial, hbel _⟩), (by first | rfl | (simp; first | done | fail))⟩ ?_)))
  · simp [rn]
  · rintro k σ ⟨m, ii, ⟨hi, hm⟩, rfl⟩
    have hc := eat_next m first X (by omega)
    rw [← hi, ← readSt_text (eat m first X)] at hc
    refine WP.seq ?_
    refine WP.rs hG ?_
    refine Ch.pu gdN (by exact ⟨rfl, trivial⟩) (OpS.move) (by first | exact trivial | exact ⟨rfl, trivial⟩) rfl ?_
    refine Ch.pu gdN (by exact ⟨rfl, rfl, trivial⟩) (OpS.int rfl (by first | exact wr64 (by omega) | exact rfl)) (by first | exact trivial | exact ⟨rfl, trivial⟩) rfl ?_
    refine Ch.pu gdN (by exact ⟨rfl, trivial⟩) (OpS.move) (by first | exact trivial | exact ⟨rfl, trivial⟩) rfl ?_
    refine Ch.pu gdN (by exact ⟨rfl, trivial⟩) (OpS.lenS rfl) (by first | exact trivial | exact ⟨rfl, trivial⟩) rfl ?_
    refine Ch.pu gdN (by exact ⟨rfl, rfl, trivial⟩) (OpS.int rfl (by first | exact wr64 (by omega) | exact rfl)) (by first | exact trivial | exact ⟨rfl, trivial⟩) rfl ?_
    refine Ch.nil ?_
    refine WP.cond rfl ?_ ?_
    · intro ht
      have ht' := of_decide_eq_true ht
      have hsub : ii + 64 - ii = 64 := by omega
      refine WP.skip ?_
      refine WP.seq ?_
      refine WP.block ?_
      refine WP.rg hG ?_
      refine Ch.pu gdN (by exact ⟨rfl, trivial⟩) (OpS.move) (by first | exact trivial | exact ⟨rfl, trivial⟩) rfl ?_
      refine Ch.pu gdN (by exact ⟨rfl, trivial⟩) (OpS.move) (by first | exact trivial | exact ⟨rfl, trivial⟩) rfl ?_
      refine Ch.pu gdN (by exact ⟨rfl, trivial⟩) (OpS.move) (by first | exact trivial | exact ⟨rfl, trivial⟩) rfl ?_
      refine Ch.pu gdN (by exact ⟨rfl, trivial⟩) (OpS.move) (by first | exact trivial | exact ⟨rfl, trivial⟩) rfl ?_
      refine Ch.pu gdN (by exact ⟨rfl, rfl, trivial⟩) (OpS.int rfl (by first | exact wr64 (by omega) | exact rfl)) (by first | exact trivial | exact ⟨rfl, trivial⟩) rfl ?_
      refine Ch.pu gdN (by exact ⟨rfl, rfl, rfl, trivial⟩) (OpS.sliceS rfl (by first | with_reducible exact Int.toNat_natCast _ | with_reducible exact tnLit _ _ | with_reducible exact tnLitA _ _ | with_reducible exact tnL _ | with_reducible exact tnA _ _ | with_reducible exact tnM _ _ | with_reducible exact tnMA _ _ _ | exact rfl) (by first | with_reducible exact Int.toNat_natCast _ | with_reducible exact tnLit _ _ | with_reducible exact tnLitA _ _ | with_reducible exact tnL _ | with_reducible exact tnA _ _ | with_reducible exact tnM _ _ | with_reducible exact tnMA _ _ _ | exact rfl) (by omega) (by omega) (by omega)) (by first | exact trivial | exact ⟨rfl, trivial⟩) rfl ?_
      refine Ch.callP (rblock_fc hk (eat m first X).text ((X.drop ii).take (ii + 64 - ii)) (St.text_length _) (by simp; omega)) gdN (by repeat (first | exact EvL.nil | (apply EvL.cons; exact rfl))) (by exact (And.intro (by first | exact .rfl _ | exact .untip _ _ _ | exact .nil | exact .func _ | exact AV.wk.sh (renL_s _ _) | exact AV.wk.sh (by simp; first | done | fail)) (And.intro (by first | exact .rfl _ | exact .untip _ _ _ | exact .nil | exact .func _ | exact AV.wk.sh (renL_s _ _) | exact AV.wk.sh (by simp; first | done | fail)) trivial))) (by rfl) rfl ?_
      refine Ch.pu gdN (by exact ⟨rfl, trivial⟩) (OpS.assign) (by first | exact trivial | exact ⟨rfl, trivial⟩) rfl ?_
      refine Ch.nil ?_
      refine WP.rg hG ?_
      refine Ch.pu gdN (by exact ⟨rfl, trivial⟩) (OpS.move) (by first | exact trivial | exact ⟨rfl, trivial⟩) rfl ?_
      refine Ch.pu gdN (by exact ⟨rfl, rfl, trivial⟩) (OpS.int rfl (by first | exact wr64 (by omega) | exact rfl)) (by first | exact trivial | exact ⟨rfl, trivial⟩) rfl ?_
      refine Ch.pu gdN (by exact ⟨rfl, trivial⟩) (OpS.assign) (by first | exact trivial | exact ⟨rfl, trivial⟩) rfl ?_
      refine Ch.nil ?_
      refine ⟨k - 1, _, by omega, (Ent.of [] ?_ ?_ ?_ ?_).se, m + 1, ii + 64, by omega, rfl⟩
      · exact (fun i hi => by rw [hnA] at hi; simp only [List.length_cons, List.length_nil] at hi ⊢; first | exact absurd hi (Nat.not_lt_zero _) | (revert i; decide))
      · (repeat (first | exact trivial | (refine And.intro ⟨(by first | trivial | (simp; first | done | fail) | exact ⟨trivial, hbel _⟩), _, rfl, (by first | exact .rfl _ | exact .nil | exact .of_eq (by simp [hc]; first | done | fail) | exact AV.wk.sh (by simp [hc]; first | done | fail) | exact .untip _ _ _)⟩ ?_)))
      · (repeat (first | exact trivial | (refine And.intro ⟨rfl, (by first | trivial | (simp; first | done | fail) | exact ⟨trivial, hbel _⟩), (by first | rfl | (simp [hc]; first | done | fail))⟩ ?_)))
      · simp [rn]
    · intro ht
      have ht' := of_decide_eq_false ht
      obtain rfl : m = q := by omega
      refine WP.exit ?_
      refine WP.rs hG ?_
      refine Ch.pu gdN (by exact ⟨rfl, trivial⟩) (OpS.move) (by first | exact trivial | exact ⟨rfl, trivial⟩) rfl ?_
      refine Ch.pu gdN (by exact ⟨rfl, trivial⟩) (OpS.assign) (by first | exact trivial | exact ⟨rfl, trivial⟩) rfl ?_
      refine Ch.nil ?_
      exact WP.ret (Ret.one rfl (.of_eq (by simp [hs])) trivial hnA)

theorem be4_nat (n : Nat) : [UInt8.ofNat (n / 2 ^ 24), UInt8.ofNat (n / 2 ^ 16), UInt8.ofNat (n / 2 ^ 8), UInt8.ofNat n] = be4 (UInt32.ofNat n) := by
  simp only [be4, List.cons.injEq, and_true]
  refine ⟨?_, ?_, ?_, ?_⟩ <;> (apply UInt8.toNat_inj.1; simp [shr32] <;> omega)
theorem rinput_fc {G : List (Nat × Array Value)} (d : UInt8) (ps : List (List UInt8)) (hL : (input d ps).length ≤ 140737488355328) :
    FC Tryd.prog G 43 [.v (.int .u8 (U8 d)), .sl none ps.length (ps.map sA)] [] (sA (input d ps)) [] := by
  refine FC.of_wp [4] Tryd.func43 rfl rfl rfl rfl (by first | trivial | (simp; first | done | fail) | exact ⟨trivial, hbel _⟩) (by first | trivial | (simp; first | done | fail) | exact ⟨trivial, hbel _⟩) (by exact Nat.le_of_ble_eq_true rfl) ?_
  intro A hG hnA hAB
  unfold start
  refine WP.rs hG ?_
  refine Ch.pu gdN (by exact ⟨rfl, trivial⟩) (OpS.assign) (by first | exact trivial | exact ⟨rfl, trivial⟩) rfl ?_
  refine Ch.nil ?_
  refine WP.rs hG ?_
  refine Ch.pu gdN (by exact ⟨rfl, trivial⟩) (OpS.move) (by first | exact trivial | exact ⟨rfl, trivial⟩) rfl ?_
  refine Ch.pup gdN (by repeat (first | exact EvP.nil | (apply EvP.cons; exact rfl))) (OpS.slice1 rfl rfl rfl rfl rfl rfl (by rfl) rfl (by rfl)) rfl ?_
  refine Ch.pu gdN (by exact ⟨rfl, trivial⟩) (OpS.b2s (l := [d]) rfl rfl rfl rfl) (by first | exact trivial | exact ⟨rfl, trivial⟩) rfl ?_
  refine Ch.pu gdN (by exact ⟨rfl, trivial⟩) (OpS.assign) (by first | exact trivial | exact ⟨rfl, trivial⟩) rfl ?_
  refine Ch.nil ?_
  refine WP.seq ?_
  have hmany := input_many d ps
  refine WP.rs hG ?_
  refine Ch.pu gdN (by exact ⟨rfl, trivial⟩) (OpS.assign) (by first | exact trivial | exact ⟨rfl, trivial⟩) rfl ?_
  refine Ch.nil ?_
  refine WP.block ?_
  refine WP.loop (fun k σ => ∃ m : Nat, m + k = ps.length ∧ σ = ⟨43, ls [(1, .sl none ps.length (ps.map sA)), (5, sA (input d (ps.take m))), (6, .v (.int .i64 (m : Int)))], lh [], blt 0⟩) (ps.length) (Ent.of [] ?_ ?_ ?_ ?_).se ⟨0, by omega, rfl⟩ ?_
  · exact (fun i hi => by rw [hnA] at hi; simp only [List.length_cons, List.length_nil] at hi ⊢; first | exact absurd hi (Nat.not_lt_zero _) | (revert i; decide))
  · (repeat (first | exact trivial | (refine And.intro ⟨(by first | trivial | (simp; first | done | fail) | exact ⟨trivial, hbel _⟩), _, rfl, (by first | exact .rfl _ | exact .nil | exact .of_eq (by simp; first | done | fail) | exact AV.wk.sh (by simp; first | done | fail) | exact .untip _ _ _)⟩ ?_)))
  · (repeat (first | exact trivial | (refine And.intro ⟨rfl, (by first | trivial | (simp; first | done | fail) | exact ⟨trivial, hbel _⟩), (by first | rfl | (simp; first | done | fail))⟩ ?_)))
  · simp [rn]
  · rintro k σ ⟨m, hm, rfl⟩
    refine WP.seq ?_
    refine WP.rs hG ?_
    refine Ch.pu gdN (by exact ⟨rfl, trivial⟩) (OpS.move) (by first | exact trivial | exact ⟨rfl, trivial⟩) rfl ?_
    refine Ch.pu gdN (by exact ⟨rfl, trivial⟩) (OpS.move) (by first | exact trivial | exact ⟨rfl, trivial⟩) rfl ?_
    refine Ch.pu gdN (by exact ⟨rfl, trivial⟩) (OpS.len rfl) (by first | exact trivial | exact ⟨rfl, trivial⟩) rfl ?_
    refine Ch.pu gdN (by exact ⟨rfl, rfl, trivial⟩) (OpS.int rfl (by first | exact wr64 (by omega) | exact rfl)) (by first | exact trivial | exact ⟨rfl, trivial⟩) rfl ?_
    refine Ch.nil ?_
    refine WP.cond rfl ?_ ?_
    · intro ht
      have ht' := of_decide_eq_true ht
      have hc : input d (ps.take (m + 1)) = input d (ps.take m) ++ be4 (UInt32.ofNat (el ps m).length) ++ el ps m := input_take d ps m (by omega)
      rw [← be4_nat] at hc
      have hle := input_le d ps (m + 1)
      have hlen : (input d (ps.take m)).length + 4 + (el ps m).length ≤ 140737488355328 := by
        rw [hc] at hle
        simp only [List.length_append, List.length_cons, List.length_nil] at hle
        omega
      refine WP.skip ?_
      refine WP.seq ?_
      refine WP.block ?_
      refine WP.rs hG ?_
      refine Ch.pu gdN (by exact ⟨rfl, trivial⟩) (OpS.move) (by first | exact trivial | exact ⟨rfl, trivial⟩) rfl ?_
      refine Ch.pu gdN (by exact ⟨rfl, trivial⟩) (OpS.move) (by first | exact trivial | exact ⟨rfl, trivial⟩) rfl ?_
      refine Ch.pu gdN (by exact ⟨rfl, rfl, trivial⟩) (OpS.indexM rfl rfl rfl (by first | with_reducible exact Int.toNat_natCast _ | with_reducible exact tnLit _ _ | with_reducible exact tnLitA _ _ | with_reducible exact tnL _ | with_reducible exact tnA _ _ | with_reducible exact tnM _ _ | with_reducible exact tnMA _ _ _ | exact rfl) (by omega) (by omega) (by first | rfl | (simp; done) | omega)) (by first | exact trivial | exact ⟨rfl, trivial⟩) rfl ?_
      refine Ch.pu gdN (by exact ⟨rfl, trivial⟩) (OpS.loadS rfl rfl) (by first | exact trivial | exact ⟨rfl, trivial⟩) rfl ?_
      refine Ch.pu gdN (by exact ⟨rfl, trivial⟩) (OpS.lenS rfl) (by first | exact trivial | exact ⟨rfl, trivial⟩) rfl ?_
      refine Ch.pu gdN (by exact ⟨rfl, trivial⟩) (OpS.assign) (by first | exact trivial | exact ⟨rfl, trivial⟩) rfl ?_
      refine Ch.nil ?_
      refine WP.rgD (by kernel_rfl) hG ?_
      refine Ch.pu gdN (by exact ⟨rfl, trivial⟩) (OpS.move) (by first | exact trivial | exact ⟨rfl, trivial⟩) rfl ?_
      refine Ch.pu gdN (by exact ⟨rfl, trivial⟩) (OpS.move) (by first | exact trivial | exact ⟨rfl, trivial⟩) rfl ?_
      refine Ch.pu gdN (by exact ⟨rfl, rfl, trivial⟩) (OpS.shrN (j := 24) rfl (by decide)) (by first | exact trivial | exact ⟨rfl, trivial⟩) rfl ?_
      refine Ch.pu gdN (by exact ⟨rfl, trivial⟩) (OpS.conv rfl rfl (by first | exact cv_u32_u8 _ | exact cv_u64_u8 _ | exact cv_i64_u8 _ | exact cv_u8_u32 _ | exact cv_u8_u64 _ | exact cv_u32_u64 _ | exact cv_u64_u32 _ | exact cv_u8_u8 _ | exact cv_u32_u32 _ | exact cv_u64_u64 _ | exact wr64 (by omega) | exact cv_u64_nat _ | exact cv_u32_nat _ | exact cv_u8_nat _ | exact rfl)) (by first | exact trivial | exact ⟨rfl, trivial⟩) rfl ?_
      refine Ch.pu gdN (by exact ⟨rfl, trivial⟩) (OpS.move) (by first | exact trivial | exact ⟨rfl, trivial⟩) rfl ?_
      refine Ch.pu gdN (by exact ⟨rfl, rfl, trivial⟩) (OpS.shrN (j := 16) rfl (by decide)) (by first | exact trivial | exact ⟨rfl, trivial⟩) rfl ?_
      refine Ch.pu gdN (by exact ⟨rfl, trivial⟩) (OpS.conv rfl rfl (by first | exact cv_u32_u8 _ | exact cv_u64_u8 _ | exact cv_i64_u8 _ | exact cv_u8_u32 _ | exact cv_u8_u64 _ | exact cv_u32_u64 _ | exact cv_u64_u32 _ | exact cv_u8_u8 _ | exact cv_u32_u32 _ | exact cv_u64_u64 _ | exact wr64 (by omega) | exact cv_u64_nat _ | exact cv_u32_nat _ | exact cv_u8_nat _ | exact rfl)) (by first | exact trivial | exact ⟨rfl, trivial⟩) rfl ?_
      refine Ch.pu gdN (by exact ⟨rfl, trivial⟩) (OpS.move) (by first | exact trivial | exact ⟨rfl, trivial⟩) rfl ?_
      refine Ch.pu gdN (by exact ⟨rfl, rfl, trivial⟩) (OpS.shrN (j := 8) rfl (by decide)) (by first | exact trivial | exact ⟨rfl, trivial⟩) rfl ?_
      refine Ch.pu gdN (by exact ⟨rfl, trivial⟩) (OpS.conv rfl rfl (by first | exact cv_u32_u8 _ | exact cv_u64_u8 _ | exact cv_i64_u8 _ | exact cv_u8_u32 _ | exact cv_u8_u64 _ | exact cv_u32_u64 _ | exact cv_u64_u32 _ | exact cv_u8_u8 _ | exact cv_u32_u32 _ | exact cv_u64_u64 _ | exact wr64 (by omega) | exact cv_u64_nat _ | exact cv_u32_nat _ | exact cv_u8_nat _ | exact rfl)) (by first | exact trivial | exact ⟨rfl, trivial⟩) rfl ?_
      refine Ch.pu gdN (by exact ⟨rfl, trivial⟩) (OpS.move) (by first | exact trivial | exact ⟨rfl, trivial⟩) rfl ?_
      refine Ch.pu gdN (by exact ⟨rfl, trivial⟩) (OpS.conv rfl rfl (by first | exact cv_u32_u8 _ | exact cv_u64_u8 _ | exact cv_i64_u8 _ | exact cv_u8_u32 _ | exact cv_u8_u64 _ | exact cv_u32_u64 _ | exact cv_u64_u32 _ | exact cv_u8_u8 _ | exact cv_u32_u32 _ | exact cv_u64_u64 _ | exact wr64 (by omega) | exact cv_u64_nat _ | exact cv_u32_nat _ | exact cv_u8_nat _ | exact rfl)) (by first | exact trivial | exact ⟨rfl, trivial⟩) rfl ?_
      refine Ch.pup gdN (by repeat (first | exact EvP.nil | (apply EvP.cons; exact rfl))) (OpS.slice1 rfl rfl rfl rfl rfl rfl (by rfl) rfl (by rfl)) rfl ?_
      refine Ch.pu gdN (by exact ⟨rfl, trivial⟩) (OpS.b2s (l := [UInt8.ofNat ((el ps m).length / 2 ^ 24), UInt8.ofNat ((el ps m).length / 2 ^ 16), UInt8.ofNat ((el ps m).length / 2 ^ 8), UInt8.ofNat (el ps m).length]) rfl rfl rfl rfl) (by first | exact trivial | exact ⟨rfl, trivial⟩) rfl ?_
      refine Ch.pu gdN (by exact ⟨rfl, rfl, trivial⟩) (OpS.strAdd (by simp; omega)) (by first | exact trivial | exact ⟨rfl, trivial⟩) rfl ?_
      refine Ch.pu gdN (by exact ⟨rfl, trivial⟩) (OpS.move) (by first | exact trivial | exact ⟨rfl, trivial⟩) rfl ?_
      refine Ch.pu gdN (by exact ⟨rfl, trivial⟩) (OpS.move) (by first | exact trivial | exact ⟨rfl, trivial⟩) rfl ?_
      refine Ch.pu gdN (by exact ⟨rfl, rfl, trivial⟩) (OpS.indexM rfl rfl rfl (by first | with_reducible exact Int.toNat_natCast _ | with_reducible exact tnLit _ _ | with_reducible exact tnLitA _ _ | with_reducible exact tnL _ | with_reducible exact tnA _ _ | with_reducible exact tnM _ _ | with_reducible exact tnMA _ _ _ | exact rfl) (by omega) (by omega) (by first | rfl | (simp; done) | omega)) (by first | exact trivial | exact ⟨rfl, trivial⟩) rfl ?_
      refine Ch.pu gdN (by exact ⟨rfl, trivial⟩) (OpS.loadS rfl rfl) (by first | exact trivial | exact ⟨rfl, trivial⟩) rfl ?_
      refine Ch.pu gdN (by exact ⟨rfl, rfl, trivial⟩) (OpS.strAdd (by simp; omega)) (by first | exact trivial | exact ⟨rfl, trivial⟩) rfl ?_
      refine Ch.pu gdN (by exact ⟨rfl, trivial⟩) (OpS.assign) (by first | exact trivial | exact ⟨rfl, trivial⟩) rfl ?_
      refine Ch.nilD ?_ (by kernel_rfl)
      refine WP.rg hG ?_
      refine Ch.pu gdN (by exact ⟨rfl, trivial⟩) (OpS.move) (by first | exact trivial | exact ⟨rfl, trivial⟩) rfl ?_
      refine Ch.pu gdN (by exact ⟨rfl, rfl, trivial⟩) (OpS.int rfl (by first | exact wr64 (by omega) | exact rfl)) (by first | exact trivial | exact ⟨rfl, trivial⟩) rfl ?_
      refine Ch.pu gdN (by exact ⟨rfl, trivial⟩) (OpS.assign) (by first | exact trivial | exact ⟨rfl, trivial⟩) rfl ?_
      refine Ch.nil ?_
      refine ⟨k - 1, _, by omega, (Ent.of [] ?_ ?_ ?_ ?_).se, m + 1, by omega, rfl⟩
      · exact (fun i hi => by rw [hnA] at hi; simp only [List.length_cons, List.length_nil] at hi ⊢; first | exact absurd hi (Nat.not_lt_zero _) | (revert i; decide))
      · (repeat (first | exact trivial | (refine And.intro ⟨(by first | trivial | (simp; first | done | fail) | exact ⟨trivial, hbel _⟩), _, rfl, (by first | exact .rfl _ | exact .nil | exact .of_eq (by simp [hc]; first | done | fail) | exact AV.wk.sh (by simp [hc]; first | done | fail) | exact .untip _ _ _)⟩ ?_)))
      · (repeat (first | exact trivial | (refine And.intro ⟨rfl, (by first | trivial | (simp; first | done | fail) | exact ⟨trivial, hbel _⟩), (by first | rfl | (simp [hc]; first | done | fail))⟩ ?_)))
      · simp [rn]
    · intro ht
      have ht' := of_decide_eq_false ht
      obtain rfl : m = ps.length := by omega
      refine WP.exit ?_
      refine WP.rs hG ?_
      refine Ch.pu gdN (by exact ⟨rfl, trivial⟩) (OpS.move) (by first | exact trivial | exact ⟨rfl, trivial⟩) rfl ?_
      refine Ch.pu gdN (by exact ⟨rfl, trivial⟩) (OpS.assign) (by first | exact trivial | exact ⟨rfl, trivial⟩) rfl ?_
      refine Ch.nil ?_
      exact WP.ret (Ret.one rfl (.of_eq (by simp)) trivial hnA)
theorem rtag_fc {G : List (Nat × Array Value)} (hk : (3, kArr) ∈ G) (hf : (2, first.cells) ∈ G) (d : UInt8) (ps : List (List UInt8)) (hL : (input d ps).length ≤ 140737488355328) :
    FC Tryd.prog G 26 [.v (.int .u8 (U8 d)), .sl none ps.length (ps.map sA)] [] (sA (tag d ps)) [] := by
  refine FC.of_wp [4] Tryd.func26 rfl rfl rfl rfl (by first | trivial | (simp; first | done | fail) | exact ⟨trivial, hbel _⟩) (by first | trivial | (simp; first | done | fail) | exact ⟨trivial, hbel _⟩) (by exact Nat.le_of_ble_eq_true rfl) ?_
  intro A hG hnA hAB
  unfold start
  refine WP.rs hG ?_
  refine Ch.pu gdN (by exact ⟨rfl, trivial⟩) (OpS.assign) (by first | exact trivial | exact ⟨rfl, trivial⟩) rfl ?_
  refine Ch.nil ?_
  refine WP.rs hG ?_
  refine Ch.pu gdN (by exact ⟨rfl, trivial⟩) (OpS.move) (by first | exact trivial | exact ⟨rfl, trivial⟩) rfl ?_
  refine Ch.pu gdN (by exact ⟨rfl, trivial⟩) (OpS.move) (by first | exact trivial | exact ⟨rfl, trivial⟩) rfl ?_
  refine Ch.callP (rinput_fc d ps hL) gdN (by repeat (first | exact EvL.nil | (apply EvL.cons; exact rfl))) (by exact (And.intro (by first | exact .rfl _ | exact .untip _ _ _ | exact .nil | exact .func _ | exact AV.wk.sh (renL_s _ _) | exact AV.wk.sh (by simp; first | done | fail)) (And.intro (by first | exact .rfl _ | exact .untip _ _ _ | exact .nil | exact .func _ | exact AV.wk.sh (renL_s _ _) | exact AV.wk.sh (by simp; first | done | fail)) trivial))) (by rfl) rfl ?_
  refine Ch.callP (rsum_fc hk hf (input d ps) (by omega)) gdN (by repeat (first | exact EvL.nil | (apply EvL.cons; exact rfl))) (by exact (And.intro (by first | exact .rfl _ | exact .untip _ _ _ | exact .nil | exact .func _ | exact AV.wk.sh (renL_s _ _) | exact AV.wk.sh (by simp; first | done | fail)) trivial)) (by rfl) rfl ?_
  refine Ch.pu gdN (by exact ⟨rfl, trivial⟩) (OpS.assign) (by first | exact trivial | exact ⟨rfl, trivial⟩) rfl ?_
  refine Ch.nil ?_
  refine WP.ret (Ret.one rfl (by first | exact .rfl _ | exact .nil | exact .of_eq (by simp; first | done | fail) | exact AV.wk.sh (by simp; first | done | fail) | exact .untip _ _ _) (by first | trivial | simp [AV.bel]) hnA)
end Go.Proofs.YtmmoadhjlgbmhaaDoor.E
end
section
/- More operations: parts of slices, calls by a value, larger and smaller, bits of whole numbers, rows made with room. -/
namespace Go.Proofs.YtmmoadhjlgbmhaaDoor.E
open Go Go.RowKit Go.Proofs.YtmmoadhjlgbmhaaDoor.V
/-- a part of a slice -/
theorem VRel.part {N : Nat → Nat → Prop} {ρ : Env} {w : World} {o : Option Nat} {n : Nat} {cs : List AV} {a : Option Addr} {n' cap : Nat} (h : VRel N ρ w (.sl o n cs) (.slice a n' cap)) {l m : Nat} (sz : Nat) (h1 : l ≤ m) (h2 : m ≤ n) :
    VRel N ρ w (.sl none (m - l) ((cs.drop (l * sz)).take ((m - l) * sz))) (sliced a l m cap sz) := by
  cases h with
  | sl o n cs a cap vals hc hcs ho hn hz hm =>
    unfold sliced
    by_cases hl : cap = l
    · have h0 : m - l = 0 := by omega
      rw [h0, Nat.zero_mul, List.take_zero]
      refine .sl _ _ _ _ _ vals (fun i hi => by cases hi) (fun i c hc' => by simp at hc') (fun k hk => by cases hk) (by omega) (fun _ => rfl) (by omega)
    · rw [if_neg hl]
      refine .sl _ _ _ _ _ (fun i => vals (l * sz + i)) (fun i hi => ?_) (fun i c hc' => ?_) (fun k hk => by cases hk) (by omega) (fun ha => ?_) (by omega)
      · have hi' : l * sz + i < cs.length := by simp at hi; omega
        obtain ⟨k1, b, off, rfl, k2, k3⟩ := hc _ hi'
        refine ⟨k1, b, off + l * sz, by simp [Addr.add_mid], ?_, ?_⟩
        · rw [Nat.add_assoc]; exact k2
        · rw [Nat.add_assoc]; exact k3
      · rw [List.getElem?_take] at hc'
        split at hc'
        · rw [List.getElem?_drop] at hc'
          exact hcs _ _ hc'
        · cases hc'
      · cases a with
        | none => have := hz rfl; omega
        | some a => cases ha
theorem VRel.isSl {N : Nat → Nat → Prop} {ρ : Env} {w : World} {o : Option Nat} {n : Nat} {cs : List AV} {x : Value} (h : VRel N ρ w (.sl o n cs) x) : ∃ a cap, x = .slice a n cap ∧ n ≤ cap := by
  cases h with
  | sl o n cs a cap vals hc hcs ho hn hz hm => exact ⟨a, cap, rfl, hn⟩
section
variable {P : Program} {G : List (Nat × Array Value)} {dst : Option Tmp} {ty : TypeId} {pos : String} {aft : Array Edge} {gd : Option (Nat × Bool)}
theorem run_sizeOf {e : TypeId} {inf : TypeInfo} (hi : P.info? e = some inf) (w : World) : (sizeOf e).run P w = .ok inf.size w := by
  simp [sizeOf, typeInfo, hi, Sem.run_bind, Sem.run_pure]
theorem elem_of {t e : TypeId} (hu : P.underlying t = some (.slice e)) : P.elem t = e := by
  simp [Program.elem, hu]
theorem OpS.slLH {t e : TypeId} {inf : TypeInfo} {x i j : Operand} {o : Option Nat} {n sz : Nat} {cs : List AV} {k k' : IntKind} {a b : Int} {l m : Nat} (hu : P.underlying t = some (.slice e)) (hi : P.info? e = some inf) (hz : inf.size = sz) (ha : a.toNat = l) (hb : b.toNat = m) (h0 : 0 ≤ a) (h1 : a ≤ b) (h2 : b ≤ (n : Int)) :
    OpS P G ⟨dst, .slice t x (some i) (some j) none, ty, pos, aft, gd⟩ [(x, .sl o n cs), (i, .v (.int k a)), (j, .v (.int k' b))] [] ⟨some (.sl none (m - l) ((cs.drop (l * sz)).take ((m - l) * sz))), [], []⟩ := by
  subst ha; subst hb; subst hz
  refine OpS.still fun A ρ σ a' w _ h _ hs => ?_
  have hx := hs.ev h.1
  obtain ⟨ad, cap, he, hc⟩ := hx.isSl
  rw [he] at hx
  refine ⟨sliced ad a.toNat b.toNat cap inf.size, ?_, hx.part inf.size (by omega) (by omega)⟩
  refine runv (s := Instr.sliceAt t (a'.eval x) (some (a'.eval i)) (some (a'.eval j)) none) ?_
  rw [he, (hs.ev h.2.1).raw, (hs.ev h.2.2.1).raw]
  have hu' : P.underlying t = some (.slice (P.elem t)) := by rw [elem_of hu]; exact hu
  rw [run_sliceAt_slice w t _ _ _ _ hu', run_slice_lh w t ad n cap hu' k k' a b h0 h1 (by omega), elem_of hu, run_sizeOf hi]
  rfl
theorem OpS.slL {t e : TypeId} {inf : TypeInfo} {x i : Operand} {o : Option Nat} {n sz : Nat} {cs : List AV} {k : IntKind} {a : Int} {l : Nat} (hu : P.underlying t = some (.slice e)) (hi : P.info? e = some inf) (hz : inf.size = sz) (ha : a.toNat = l) (h0 : 0 ≤ a) (h1 : a ≤ (n : Int)) :
    OpS P G ⟨dst, .slice t x (some i) none none, ty, pos, aft, gd⟩ [(x, .sl o n cs), (i, .v (.int k a))] [] ⟨some (.sl none (n - l) ((cs.drop (l * sz)).take ((n - l) * sz))), [], []⟩ := by
  subst ha; subst hz
  refine OpS.still fun A ρ σ a' w _ h _ hs => ?_
  have hx := hs.ev h.1
  obtain ⟨ad, cap, he, hc⟩ := hx.isSl
  rw [he] at hx
  refine ⟨sliced ad a.toNat n cap inf.size, ?_, hx.part inf.size (by omega) (by omega)⟩
  refine runv (s := Instr.sliceAt t (a'.eval x) (some (a'.eval i)) none none) ?_
  rw [he, (hs.ev h.2.1).raw]
  have hu' : P.underlying t = some (.slice (P.elem t)) := by rw [elem_of hu]; exact hu
  rw [run_sliceAt_slice w t _ _ _ _ hu', run_slice_l w t ad n cap hu' k a h0 h1, elem_of hu, run_sizeOf hi]
  rfl
theorem OpS.slH {t e : TypeId} {inf : TypeInfo} {x j : Operand} {o : Option Nat} {n sz : Nat} {cs : List AV} {k : IntKind} {b : Int} {m : Nat} (hu : P.underlying t = some (.slice e)) (hi : P.info? e = some inf) (hz : inf.size = sz) (hb : b.toNat = m) (h0 : 0 ≤ b) (h1 : b ≤ (n : Int)) :
    OpS P G ⟨dst, .slice t x none (some j) none, ty, pos, aft, gd⟩ [(x, .sl o n cs), (j, .v (.int k b))] [] ⟨some (.sl none m (cs.take (m * sz))), [], []⟩ := by
  subst hb; subst hz
  refine OpS.still fun A ρ σ a' w _ h _ hs => ?_
  have hx := hs.ev h.1
  obtain ⟨ad, cap, he, hc⟩ := hx.isSl
  rw [he] at hx
  refine ⟨sliced ad 0 b.toNat cap inf.size, ?_, ?_⟩
  · refine runv (s := Instr.sliceAt t (a'.eval x) none (some (a'.eval j)) none) ?_
    rw [he, (hs.ev h.2.1).raw]
    have hu' : P.underlying t = some (.slice (P.elem t)) := by rw [elem_of hu]; exact hu
    rw [run_sliceAt_slice w t _ _ _ _ hu', run_slice_h w t ad n cap hu' k b h0 (by omega), elem_of hu, run_sizeOf hi]
    rfl
  · have := hx.part (l := 0) (m := b.toNat) inf.size (by omega) (by omega)
    simpa using this
/-- the same, of elements of one cell -/
theorem OpS.slLH1 {α : Type} {t e : TypeId} {inf : TypeInfo} {x i j : Operand} {o : Option Nat} {n : Nat} {f : α → AV} {cs : List α} {k k' : IntKind} {a b : Int} {l m : Nat} (hu : P.underlying t = some (.slice e)) (hi : P.info? e = some inf) (hz : inf.size = 1) (ha : a.toNat = l) (hb : b.toNat = m) (h0 : 0 ≤ a) (h1 : a ≤ b) (h2 : b ≤ (n : Int)) :
    OpS P G ⟨dst, .slice t x (some i) (some j) none, ty, pos, aft, gd⟩ [(x, .sl o n (cs.map f)), (i, .v (.int k a)), (j, .v (.int k' b))] [] ⟨some (.sl none (m - l) (((cs.drop l).take (m - l)).map f)), [], []⟩ := by
  have := OpS.slLH (P := P) (G := G) (dst := dst) (ty := ty) (pos := pos) (aft := aft) (gd := gd) (t := t) (x := x) (i := i) (j := j) (o := o) (n := n) (cs := cs.map f) (k := k) (k' := k') hu hi hz ha hb h0 h1 h2
  simpa [List.map_drop, List.map_take] using this
theorem OpS.slL1 {α : Type} {t e : TypeId} {inf : TypeInfo} {x i : Operand} {o : Option Nat} {n : Nat} {f : α → AV} {cs : List α} {k : IntKind} {a : Int} {l : Nat} (hu : P.underlying t = some (.slice e)) (hi : P.info? e = some inf) (hz : inf.size = 1) (ha : a.toNat = l) (h0 : 0 ≤ a) (h1 : a ≤ (n : Int)) (hl : cs.length = n) :
    OpS P G ⟨dst, .slice t x (some i) none none, ty, pos, aft, gd⟩ [(x, .sl o n (cs.map f)), (i, .v (.int k a))] [] ⟨some (.sl none (n - l) ((cs.drop l).map f)), [], []⟩ := by
  have := OpS.slL (P := P) (G := G) (dst := dst) (ty := ty) (pos := pos) (aft := aft) (gd := gd) (t := t) (x := x) (i := i) (o := o) (n := n) (cs := cs.map f) (k := k) hu hi hz ha h0 h1
  have e : (((cs.map f).drop (l * 1)).take ((n - l) * 1)) = (cs.drop l).map f := by
    rw [Nat.mul_one, Nat.mul_one, List.take_of_length_le (by simp; omega), List.map_drop]
  rwa [e] at this
theorem OpS.slH1 {α : Type} {t e : TypeId} {inf : TypeInfo} {x j : Operand} {o : Option Nat} {n : Nat} {f : α → AV} {cs : List α} {k : IntKind} {b : Int} {m : Nat} (hu : P.underlying t = some (.slice e)) (hi : P.info? e = some inf) (hz : inf.size = 1) (hb : b.toNat = m) (h0 : 0 ≤ b) (h1 : b ≤ (n : Int)) :
    OpS P G ⟨dst, .slice t x none (some j) none, ty, pos, aft, gd⟩ [(x, .sl o n (cs.map f)), (j, .v (.int k b))] [] ⟨some (.sl none m ((cs.take m).map f)), [], []⟩ := by
  have := OpS.slH (P := P) (G := G) (dst := dst) (ty := ty) (pos := pos) (aft := aft) (gd := gd) (t := t) (x := x) (j := j) (o := o) (n := n) (cs := cs.map f) (k := k) hu hi hz hb h0 h1
  simpa [List.map_take] using this
theorem natb_eq (a b : Nat) : Value.bool (((a : Int)) == ((b : Nat) : Int)) = Value.bool (decide (a = b)) := by
  congr 1
  rw [Bool.eq_iff_iff]
  simp
  omega
theorem OpS.maxI {x y : Operand} {ats : Array TypeId} {k k' : IntKind} {a b c : Int} (hc : (if b > a then b else a) = c) :
    OpS P G ⟨dst, .call ⟨.builtin .max, #[x, y], ats⟩, ty, pos, aft, gd⟩ [(x, .v (.int k a)), (y, .v (.int k' b))] [] ⟨some (.v (.int k c)), [], []⟩ := by
  subst hc
  refine OpS.still fun A ρ σ a' w _ h _ hs => ⟨_, ?_, .v _⟩
  obtain ⟨cs, he⟩ := exec_b2 a'.eval .max x y ats (dst := dst) (ty := ty) (pos := pos) (aft := aft) (gd := gd)
  rw [he]
  refine runv (s := Builtin.max_ ats ty #[a'.eval x, a'.eval y]) ?_
  rw [(hs.ev h.1).raw, (hs.ev h.2.1).raw]
  exact run_max_int2 w ats ty k k' a b
theorem OpS.minI {x y : Operand} {ats : Array TypeId} {k k' : IntKind} {a b c : Int} (hc : (if b < a then b else a) = c) :
    OpS P G ⟨dst, .call ⟨.builtin .min, #[x, y], ats⟩, ty, pos, aft, gd⟩ [(x, .v (.int k a)), (y, .v (.int k' b))] [] ⟨some (.v (.int k c)), [], []⟩ := by
  subst hc
  refine OpS.still fun A ρ σ a' w _ h _ hs => ⟨_, ?_, .v _⟩
  obtain ⟨cs, he⟩ := exec_b2 a'.eval .min x y ats (dst := dst) (ty := ty) (pos := pos) (aft := aft) (gd := gd)
  rw [he]
  refine runv (s := Builtin.min_ ats ty #[a'.eval x, a'.eval y]) ?_
  rw [(hs.ev h.1).raw, (hs.ev h.2.1).raw]
  exact run_min_int2 w ats ty k k' a b
theorem bits_nat (f : Nat → Nat → Nat) (g : BitVec 64 → BitVec 64 → BitVec 64) (hg : ∀ x y, (g x y).toNat = f x.toNat y.toNat) (hf : ∀ a b : Nat, a < 2 ^ 63 → b < 2 ^ 63 → f a b < 2 ^ 63) (a b : Nat) (ha : a < 2 ^ 63) (hb : b < 2 ^ 63) :
    IntKind.i64.wrap ((g (BitVec.ofInt 64 (a : Int)) (BitVec.ofInt 64 (b : Int))).toNat : Int) = ((f a b : Nat) : Int) := by
  have e : ∀ n : Nat, n < 2 ^ 63 → (BitVec.ofInt 64 (n : Int)).toNat = n := fun n hn => by
    rw [BitVec.toNat_ofInt]
    omega
  rw [hg, e a ha, e b hb]
  have := wr64 (n := ((f a b : Nat) : Int)) (by have := hf a b ha hb; omega)
  injection this
theorem OpS.xorN {t t' : TypeId} {x y : Operand} {a b : Nat} (ha : a < 2 ^ 63) (hb : b < 2 ^ 63) :
    OpS P G ⟨dst, .binOp .xor t x y t', ty, pos, aft, gd⟩ [(x, .v (.int .i64 (a : Int))), (y, .v (.int .i64 (b : Int)))] [] ⟨some (.v (.int .i64 ((a ^^^ b : Nat) : Int))), [], []⟩ :=
  OpS.binR rfl fun w => by
    show (Op.intBits .xor .i64 (a : Int) (b : Int)).run P w = _
    unfold Op.intBits
    show Result.ok (Value.int .i64 (IntKind.i64.wrap ((BitVec.ofInt 64 (a : Int) ^^^ BitVec.ofInt 64 (b : Int)).toNat : Int))) w = _
    rw [bits_nat (· ^^^ ·) (· ^^^ ·) (fun x y => BitVec.toNat_xor x y) (fun a b ha hb => Nat.xor_lt_two_pow ha hb) a b ha hb]
theorem OpS.andN {t t' : TypeId} {x y : Operand} {a b : Nat} (ha : a < 2 ^ 63) (hb : b < 2 ^ 63) :
    OpS P G ⟨dst, .binOp .and t x y t', ty, pos, aft, gd⟩ [(x, .v (.int .i64 (a : Int))), (y, .v (.int .i64 (b : Int)))] [] ⟨some (.v (.int .i64 ((a &&& b : Nat) : Int))), [], []⟩ :=
  OpS.binR rfl fun w => by
    show (Op.intBits .and .i64 (a : Int) (b : Int)).run P w = _
    unfold Op.intBits
    show Result.ok (Value.int .i64 (IntKind.i64.wrap ((BitVec.ofInt 64 (a : Int) &&& BitVec.ofInt 64 (b : Int)).toNat : Int))) w = _
    rw [bits_nat (· &&& ·) (· &&& ·) (fun x y => BitVec.toNat_and x y) (fun a b ha hb => Nat.and_lt_two_pow a hb) a b ha hb]
theorem OpS.strEqB {t t' : TypeId} {x y : Operand} {a b : List UInt8} {c : Bool} (h : decide (a = b) = c) :
    OpS P G ⟨dst, .binOp .eql t x y t', ty, pos, aft, gd⟩ [(x, .v (.string (B a))), (y, .v (.string (B b)))] [] ⟨some (.v (.bool c)), [], []⟩ := by
  subst h
  exact OpS.strEql
theorem OpS.strNeB {t t' : TypeId} {x y : Operand} {a b : List UInt8} {c : Bool} (h : (!decide (a = b)) = c) :
    OpS P G ⟨dst, .binOp .neq t x y t', ty, pos, aft, gd⟩ [(x, .v (.string (B a))), (y, .v (.string (B b)))] [] ⟨some (.v (.bool c)), [], []⟩ := by
  subst h
  exact OpS.strNeq
theorem OpS.negI {t : TypeId} {x : Operand} {a b : Int} (hb : b = -a) (h : -9223372036854775808 ≤ b ∧ b < 9223372036854775808) :
    OpS P G ⟨dst, .unOp .neg t x, ty, pos, aft, gd⟩ [(x, .v (.int .i64 a))] [] ⟨some (.v (.int .i64 b)), [], []⟩ :=
  OpS.unR fun w => by
    subst hb
    have e : (-a) = 0 - a := by omega
    show Result.ok (Value.int .i64 (IntKind.i64.wrap (0 - a))) w = _
    rw [e] at h ⊢
    rw [wr64 h]
/-- make: nothing yet, with room -/
theorem OpS.makeTip {t E : TypeId} {inf : TypeInfo} {z : Value} {x y : Operand} {k k' : IntKind} {m c : Int} {n sz bb : Nat} (id : Nat) (hu : P.underlying t = some (.slice E)) (hi : P.info? E = some inf) (hz : inf.zero = some z) (hsz : inf.size = sz) (hm : m = 0) (hc : c = (n : Int))
    (hbb : inf.bytes = bb) (hb : n * bb ≤ 281474976710656) (hn : n ≤ maxLen) :
    OpS P G ⟨dst, .makeSlice t x y, ty, pos, aft, gd⟩ [(x, .v (.int k m)), (y, .v (.int k' c))] [] ⟨some (.sl (some id) 0 []), [(id, some (.tip E sz 0))], [id]⟩ := by
  subst hm; subst hc; subst hsz; subst hbb
  refine OpS.act fun A ρ σ a w _ h hp hnu hs => ?_
  have hn' : ((n : Int)) ≤ 9223372036854775807 := by unfold maxLen at hn; omega
  have hb' : (inf.bytes : Int) * (n : Int) ≤ 281474976710656 := by
    have h : ((n * inf.bytes : Nat) : Int) ≤ 281474976710656 := by omega
    rw [Int.mul_comm]
    rwa [Int.natCast_mul] at h
  have hr := run_make (P := P) w t E inf z hu hi hz k k' 0 (n : Int) (by omega) (by omega) hb' hn'
  simp only [Int.toNat_natCast] at hr
  let ρ' : Env := ⟨ρ.blk, upd ρ.tip id (some (.slice (some ⟨w.heap.size, 0, none⟩) 0 n))⟩
  have hid : ρ'.tip id = some (.slice (some ⟨w.heap.size, 0, none⟩) 0 n) := upd_same _ _ _
  obtain ⟨m1, m2⟩ := hs.mem.extend (ρ' := ρ') (ob := .tip E inf.size 0) (w' := w.alloc (.cells (madeCells z.cells (n * inf.size)) E)) hnu.1 (fun i hi => ⟨rfl, upd_ne _ _ hi⟩) rfl rfl rfl (by simp) (fun k hk => Below.heap_alloc w _ k hk)
    (fun b ⟨cap, hb⟩ => by rw [hid] at hb; cases hb; exact Nat.le_refl _) (fun _ => .inr ⟨w.heap.size, n, _, hid, heap_alloc_new w _, Nat.zero_le _, hn, by simp [madeCells]⟩)
  refine ⟨_, _, ρ', .inl ?_, m1, m2, fun v hv => by
    cases hv
    exact .sl _ _ _ _ n (fun _ => undef) (fun i hi => by cases hi) (fun i c hc => by simp at hc) (fun k hk => by cases hk; exact hid) (Nat.zero_le _) (fun h => by cases h) hn⟩
  refine runv (s := Instr.makeSlice t (a.eval x) (a.eval y)) ?_
  rw [(hs.ev h.1).raw, (hs.ev h.2.1).raw]
  exact hr
/-- make: a row of noughts that nobody writes -/
theorem OpS.makeS {t E : TypeId} {inf : TypeInfo} {z : Value} {x y : Operand} {k k' : IntKind} {m : Int} {n bb : Nat} {cs : List AV} (hu : P.underlying t = some (.slice E)) (hi : P.info? E = some inf) (hz : inf.zero = some z) (hsz : inf.size = 1) (hzc : z.cells = #[z]) (h1 : z.oneCell' = true) (hm : m = (n : Int))
    (hcs : List.replicate n (.v z) = cs) (hbb : inf.bytes = bb) (hb : n * bb ≤ 281474976710656) (hn : n ≤ maxLen) :
    OpS P G ⟨dst, .makeSlice t x y, ty, pos, aft, gd⟩ [(x, .v (.int k m)), (y, .v (.int k' m))] [] ⟨some (.sl none n cs), [], []⟩ := by
  subst hm; subst hcs; subst hbb
  refine OpS.act fun A ρ σ a w _ h hp hu' hs => ?_
  have hl : (madeCells z.cells (n * inf.size)).toList = List.replicate n z := by rw [hzc, hsz, Nat.mul_one, madeCells_one]
  obtain ⟨k1, k2, k3⟩ := new_slice (w' := w.alloc (.cells (madeCells z.cells (n * inf.size)) E)) (T := E) (fz := (0, 0)) (cs := List.replicate n (.v z)) (n := n) (cap := n) hs.mem rfl rfl rfl (by simp) (fun k hk => Below.heap_alloc w _ k hk) (heap_alloc_new w _)
    (by rw [List.length_replicate, ← Array.length_toList, hl, List.length_replicate]; exact Nat.le_refl _) (Nat.le_refl _) hn (fun j c v hc hv => by
    rw [← Array.getElem?_toList, hl] at hv
    rw [List.getElem?_replicate] at hc hv
    split at hc
    · rw [if_pos ‹_›] at hv
      cases hc; cases hv
      exact ⟨.v _, h1⟩
    · cases hc)
  have hn' : ((n : Int)) ≤ 9223372036854775807 := by unfold maxLen at hn; omega
  have hb' : (inf.bytes : Int) * (n : Int) ≤ 281474976710656 := by
    have h : ((n * inf.bytes : Nat) : Int) ≤ 281474976710656 := by omega
    rw [Int.mul_comm]
    rwa [Int.natCast_mul] at h
  have hr := run_make (P := P) w t E inf z hu hi hz k k' (n : Int) (n : Int) (by omega) (Int.le_refl _) hb' hn'
  simp only [Int.toNat_natCast] at hr
  refine ⟨_, _, ρ, .inl ?_, k1, k2, fun v hv => by cases hv; exact k3⟩
  refine runv (s := Instr.makeSlice t (a.eval x) (a.eval y)) ?_
  rw [(hs.ev h.1).raw, (hs.ev h.2.1).raw]
  exact hr
/-- append, onto nothing -/
theorem OpS.appendN {E t tx : TypeId} {inf : TypeInfo} {z : Value} {s x : Operand} {m sz bb : Nat} {ds : List AV} {y : AV} (c c' : Nat) (hcc : (Nat.beq c' c) = false) (ht : P.underlying t = some (.slice E)) (hi : P.info? E = some inf) (hz : inf.zero = some z) (hsz : inf.size = sz) (hzs : z.cells.size = sz) (h0 : 0 < sz)
    (hs : SrcA P sz tx y m ds) (hdl : ds.length = m * sz) (hmax : m ≤ maxLen) (hbb : inf.bytes = bb) (hb : m * bb ≤ 140737488355328) :
    OpS P G ⟨dst, .call ⟨.builtin .append, #[s, x], #[t, tx]⟩, ty, pos, aft, gd⟩ [(s, .v (.slice none 0 0)), (x, y)] [] ⟨some (.sl (some c') m ds), [(c, none), (c', some (.tip E sz m))], [c, c']⟩ := by
  subst hbb
  have hcc' : c' ≠ c := fun e => by subst e; simp at hcc
  refine OpS.act fun A ρ σ a w _ h hp hu hst => ?_
  obtain ⟨news, hsrc, hds⟩ := hs _ _ _ _ (hst.ev h.2.1)
  let ρ1 : Env := ⟨ρ.blk, upd ρ.tip c (some (.slice none 0 0))⟩
  have hid : ρ1.tip c = some (.slice none 0 0) := upd_same _ _ _
  obtain ⟨m1, m2⟩ := hst.mem.extend (ρ' := ρ1) (ob := .tip E sz 0) (w' := w) hu.1 (fun i hi => ⟨rfl, upd_ne _ _ hi⟩) rfl rfl rfl (Nat.le_refl _) (fun k hk => rfl) (fun b ⟨cap, hb⟩ => by rw [hid] at hb; cases hb) (fun _ => .inl ⟨hid, rfl⟩)
  have hv : VRel (Nh A (upd σ.h c (some (.tip E sz 0))) ρ1 w) ρ1 w (.sl (some c) 0 []) (.slice none 0 0) :=
    .sl _ _ _ _ _ (fun _ => undef) (fun i hi => by cases hi) (fun i c hc => by simp at hc) (fun k hk => by cases hk; exact hid) (Nat.le_refl _) (fun _ => rfl) (by unfold maxLen; omega)
  have hxs : w.ownsRow 0 E sz (.slice none 0 0) 0 [] := World.ownsRow_nil w 0 _ sz
  obtain ⟨v', w', hr, hown, hg⟩ := run_append_two (P := P) w t tx ty E inf z sz ht hi hz hsz hzs h0 _ 0 [] hxs _ m news hsrc (by omega) (by simpa using hb)
  obtain ⟨ρ', k1, k2, k3⟩ := append_tip (σ := ⟨σ.n, σ.s, upd σ.h c (some (.tip E sz 0)), nuU σ.u [c]⟩) (c := c) (c' := c') (ds := ds) m1 (upd_same _ _ _) (by show nuU σ.u [c] c' = false; rw [nuU_eq, hu.2.1]; simp [hcc']) hv (by simp) hxs hown hsrc.newsLen hdl
    (fun j d x hj hx => ⟨m2 _ _ (hds j d x hj hx), hsrc.one x (List.mem_of_getElem? hx)⟩) (by omega) hg
  have eh : upd (upd (upd σ.h c (some (AO.tip E sz 0))) c none) c' (some (.tip E sz (0 + m))) = chs σ.h [(c, none), (c', some (.tip E sz m))] := by
    rw [Nat.zero_add]
    show _ = upd (upd σ.h c none) c' _
    congr 1
    funext i
    by_cases hi : i = c
    · subst hi; rw [upd_same, upd_same]
    · rw [upd_ne _ _ hi, upd_ne _ _ hi, upd_ne _ _ hi]
  have eu : nuU (nuU σ.u [c]) [c'] = nuU σ.u [c, c'] := by
    funext i
    rw [nuU_eq, nuU_eq, nuU_eq]
    simp [Bool.or_assoc]
  rw [show ([] ++ ds : List AV) = ds from rfl] at k3
  change HSat A ρ' (upd (upd (upd σ.h c (some (AO.tip E sz 0))) c none) c' (some (.tip E sz (0 + m)))) (nuU (nuU σ.u [c]) [c']) w' at k1
  change ∀ av y, VRel (Nh A (upd σ.h c (some (.tip E sz 0))) ρ1 w) ρ1 w av y → VRel (Nh A (upd (upd (upd σ.h c (some (AO.tip E sz 0))) c none) c' (some (.tip E sz (0 + m)))) ρ' w') ρ' w' av y at k2
  change VRel (Nh A (upd (upd (upd σ.h c (some (AO.tip E sz 0))) c none) c' (some (.tip E sz (0 + m)))) ρ' w') ρ' w' _ _ at k3
  rw [eh] at k1 k2 k3
  rw [eu] at k1
  rw [Nat.zero_add] at k3
  obtain ⟨css, he⟩ := exec_b2 a.eval .append s x #[t, tx] (dst := dst) (ty := ty) (pos := pos) (aft := aft) (gd := gd)
  refine ⟨v', w', ρ', .inl ?_, k1, fun av y hy => k2 _ _ (m2 _ _ hy), fun v hv' => by cases hv'; exact k3⟩
  rw [he]
  refine runv (s := Builtin.append_ #[t, tx] ty #[a.eval s, a.eval x]) ?_
  rw [(hst.ev h.1).raw]
  exact hr
/-- a call by a value -/
theorem OpS.callD {f : FuncId} {args : List AV} {H H' : List (Option AO)} {res : AV} (F : FC P G f args H res H') (old : List Nat) (base : Nat) (hol : old.length = H.length) (hnd : old.Nodup) (hlt : ∀ x ∈ old, x < base)
    {c : Operand} {xs : List Operand} {ys : List AV} (ho : xs.length = ys.length) (hwk : WkL ys (args.map (AV.ren (pi old base)))) {ats : Array TypeId} :
    OpS P G ⟨dst, .call ⟨.value c, xs.toArray, ats⟩, ty, pos, aft, gd⟩ ((c :: xs).zip (.v (.func (.func f) #[] #[]) :: ys)) (hpl (pi old base) old H) (callEff old base res H.length H') := by
  constructor
  intro A ρ σ a w K Q hG h1 h2 h3 hd hs hK
  obtain ⟨fn, cd, hf, hname, hb⟩ := F.enter
  have hcv : a.eval c = .func (.func f) #[] #[] := (hs.ev h1.1).raw
  have hrun : (execOp a.eval ⟨dst, .call ⟨.value c, xs.toArray, ats⟩, ty, pos, aft, gd⟩).run P w = .ok (.enter f (xs.map a.eval).toArray) w := by
    have := run_enter hf hname hb (xs.map a.eval).toArray w
    show (do let d ← Deferred.ofValue (a.eval c) (xs.toArray.map a.eval); invoke d.target d.args : Sem Next).run P w = _
    rw [hcv]
    show (callFunc f (#[] ++ xs.toArray.map a.eval ++ #[])).run P w = _
    simpa using this
  unfold Oper.wp
  rw [hrun, Oper.upon_enter]
  refine (call_sat F hol hnd hlt hG hs h2 h3 hd (vs := (xs.map a.eval).toArray) (ys := ys) (by simp [ho]) ?_ hwk).mono ?_
  · intro i y x hy hx
    rw [List.getElem?_toArray, List.getElem?_map] at hx
    cases hxi : xs[i]? with
    | none => rw [hxi] at hx; cases hx
    | some o => rw [hxi] at hx; cases hx; exact ev_ops hs h1.2 i o y hxi hy
  · rintro e w' ⟨v, ρ', rfl, hs'⟩
    exact hK _ _ ρ' hs'
end
section
variable {P : Program} {G : List (Nat × Array Value)} {l r : List Oper} {K : AS → Prop} {n : Nat} {s : Nat → Option AV} {h : Nat → Option AO} {u : Nat → Bool} {d : Tmp} {ty : TypeId} {pos : String} {aft : Array Edge} {gd : Option (Nat × Bool)} {D : Bool} {acc : List St}
/-- a call of a function that yields a slice -/
theorem Ch.callS {f : FuncId} {args : List AV} {m : Nat} {cs : List AV} (F : FC P G f args [] (.sl none m cs) []) {xs : List Operand} {ys : List AV} {ats : Array TypeId}
    (hg : GdOk l.toArray ⟨some d, .call ⟨.value (.func f), xs.toArray, ats⟩, ty, pos, aft, gd⟩ ⟨n, s, h, u⟩ true) (hev : EvL ⟨n, s, h, u⟩ xs ys) (hwk : WkL ys (args.map (AV.ren (pi [] 0)))) (hc : AV.renL (pi [] 0) cs = cs) (hd : Nat.blt d n = true)
    (hr : Ch P G l D K (⟨true, xs.zip ys, [], ⟨some (.sl none m cs), [], []⟩⟩ :: acc) r ⟨n, upd s d (some (.sl none m cs)), h, u⟩) :
    Ch P G l D K acc (⟨some d, .call ⟨.value (.func f), xs.toArray, ats⟩, ty, pos, aft, gd⟩ :: r) ⟨n, s, h, u⟩ :=
  Ch.callP F hg hev hwk (res' := .sl none m cs) (by simp [AV.ren, hc]) hd hr
/-- a call by a value, of a function that only computes -/
theorem Ch.callD {f : FuncId} {args : List AV} {res : AV} (F : FC P G f args [] res []) {c : Operand} {xs : List Operand} {ys : List AV} {ats : Array TypeId}
    (hg : GdOk l.toArray ⟨some d, .call ⟨.value c, xs.toArray, ats⟩, ty, pos, aft, gd⟩ ⟨n, s, h, u⟩ true) (hev : EvL ⟨n, s, h, u⟩ (c :: xs) (.v (.func (.func f) #[] #[]) :: ys)) (hwk : WkL ys (args.map (AV.ren (pi [] 0)))) {res' : AV} (hres : res.ren (pi [] 0) = res') (hd : Nat.blt d n = true)
    (hr : Ch P G l D K (⟨true, (c :: xs).zip (.v (.func (.func f) #[] #[]) :: ys), [], ⟨some res', [], []⟩⟩ :: acc) r ⟨n, upd s d (some res'), h, u⟩) :
    Ch P G l D K acc (⟨some d, .call ⟨.value c, xs.toArray, ats⟩, ty, pos, aft, gd⟩ :: r) ⟨n, s, h, u⟩ := by
  subst hres
  have hlen : xs.length = ys.length := by have := hev.ok.2; simpa using this
  exact Ch.cons (st := ⟨true, (c :: xs).zip (.v (.func (.func f) #[] #[]) :: ys), [], ⟨some (res.ren (pi [] 0)), [], []⟩⟩) ⟨hg, fun _ => ⟨OpS.callD F [] 0 rfl (by simp) (by simp) hlen hwk, hev.ok.1, trivial, trivial, fun t ht => by cases ht; exact Nat.blt_eq.mp hd⟩, fun h => nomatch h⟩ hr
end
theorem belL_append (u : Nat → Bool) : ∀ a b : List AV, AV.belL u (a ++ b) ↔ AV.belL u a ∧ AV.belL u b
  | [], b => by simp [AV.belL]
  | x :: a, b => by
    show AV.bel u x ∧ AV.belL u (a ++ b) ↔ (AV.bel u x ∧ AV.belL u a) ∧ AV.belL u b
    rw [belL_append u a b, and_assoc]
attribute [simp] belL_append
/-- ways that meet -/
theorem WP.seqJ {P : Program} {A : Amb} {Q : Exit → AS → Prop} {σ : AS} {x y : Code} (J : AS → Prop) (h1 : WP P A x (thn (fun σ => ∃ σ', SEnt A σ σ' ∧ J σ') Q) σ) (h2 : ∀ σ, J σ → WP P A y Q σ) : WP P A (.seq x y) Q σ :=
  WP.seq (h1.mono fun e σ' h => by
    cases e with
    | normal => obtain ⟨σ2, hs, hj⟩ := h; exact WP.from hs (h2 σ2 hj)
    | _ => exact h)
/-- two values go back -/
theorem Ret.two {A : Amb} {n : Nat} {s : Nat → Option AV} {h : Nat → Option AO} {u : Nat → Bool} {t1 t2 : Tmp} {v1 v2 r1 r2 : AV} (h1 : s t1 = some v1) (h2 : s t2 = some v2) (k1 : v1.wk (r1.ren (rn []))) (k2 : v2.wk (r2.ren (rn []))) (b1 : r1.bel (blt 0)) (b2 : r2.bel (blt 0))
    (hne : (Nat.beq t2 t1) = false) (hA : A.nA = 0) : Ret A [t1, t2] (.tup [r1, r2]) [] .ret ⟨n, s, h, u⟩ :=
  (Ret.of (rs := [t1, t2]) (vs := [r1, r2]) (H' := []) (res := .tup [r1, r2]) [] (fun i hi => by rw [hA] at hi; omega) ⟨⟨b1, v1, h1, k1⟩, ⟨b2, v2, h2, k2⟩, trivial⟩ rfl trivial (by simp)
    (show RetV [t1, t2] (.tup [r1, r2]) _ from ⟨[r1, r2], rfl, rfl, by simp [ls, TsOk, List.zip, List.zipWith, hne]⟩)).1
end Go.Proofs.YtmmoadhjlgbmhaaDoor.E
end
section
/- A text of parts tells its parts; noughts behind a text. No program in sight. -/
namespace Go.Proofs.YtmmoadhjlgbmhaaDoor.V

theorem be4_inj {x y : UInt32} (h : be4 x = be4 y) : x = y := by
  have h1 := word_be4 x []
  rw [h, word_be4] at h1
  exact h1.symm
/-- unlike domains or parts give unlike texts -/
theorem flat_inj : ∀ (a b : List (List UInt8)), (∀ p ∈ a, p.length < 4294967296) → (∀ p ∈ b, p.length < 4294967296) →
    (a.flatMap fun p => be4 (UInt32.ofNat p.length) ++ p) = (b.flatMap fun p => be4 (UInt32.ofNat p.length) ++ p) → a = b
  | [], [], _, _, _ => rfl
  | [], q :: b, _, _, h => by
    have := congrArg List.length h
    simp [be4_length] at this <;> omega
  | p :: a, [], _, _, h => by
    have := congrArg List.length h
    simp [be4_length] at this <;> omega
  | p :: a, q :: b, ha, hb, h => by
    simp only [List.flatMap_cons, List.append_assoc] at h
    obtain ⟨h1, h2⟩ := List.append_inj h rfl
    have h3 := congrArg UInt32.toNat (be4_inj h1)
    have hp := ha p (by simp)
    have hq := hb q (by simp)
    simp only [UInt32.toNat_ofNat'] at h3
    have hl : p.length = q.length := by omega
    obtain ⟨h4, h5⟩ := List.append_inj h2 hl
    rw [h4, flat_inj a b (fun x hx => ha x (by simp [hx])) (fun x hx => hb x (by simp [hx])) h5]
theorem input_inj {d e : UInt8} {a b : List (List UInt8)} (ha : ∀ p ∈ a, p.length < 4294967296) (hb : ∀ p ∈ b, p.length < 4294967296) : input d a = input e b ↔ d = e ∧ a = b := by
  constructor
  · intro h
    simp only [input, List.cons.injEq] at h
    exact ⟨h.1, flat_inj a b ha hb h.2⟩
  · rintro ⟨rfl, rfl⟩
    rfl
theorem sum_length (l : List UInt8) : (sum l).length = 32 := St.text_length _
theorem tag_length (d : UInt8) (ps : List (List UInt8)) : (tag d ps).length = 32 := St.text_length _
/-- a text, cut or filled with noughts to a length -/
def fit (n : Nat) (l : List UInt8) : List UInt8 := l.take n ++ List.replicate (n - (l.take n).length) 0
theorem fit_length (n : Nat) (l : List UInt8) : (fit n l).length = n := by simp [fit]; omega
/-- two unlike texts of a list have one sum -/
def Coll (L : List (List UInt8)) : Prop := ∃ x ∈ L, ∃ y ∈ L, x ≠ y ∧ sum x = sum y
theorem Coll.mono {L M : List (List UInt8)} (h : Coll L) (hs : ∀ x ∈ L, x ∈ M) : Coll M := by
  obtain ⟨x, hx, y, hy, hne, he⟩ := h
  exact ⟨x, hs x hx, y, hs y hy, hne, he⟩
theorem Coll.of {x y : List UInt8} {L : List (List UInt8)} (hx : x ∈ L) (hy : y ∈ L) (he : sum x = sum y) : x = y ∨ Coll L := by
  by_cases h : x = y
  · exact .inl h
  · exact .inr ⟨x, hx, y, hy, h, he⟩
end Go.Proofs.YtmmoadhjlgbmhaaDoor.V
end
section
/- What later layers use of layer 1, by abstract steps: Input and Tag of lists of texts. -/
namespace Go.Proofs.YtmmoadhjlgbmhaaDoor.E
open Go Go.RowKit Go.Proofs.YtmmoadhjlgbmhaaDoor.V
theorem strs_of {N : Nat → Nat → Prop} {ρ : Env} {w : World} {ps : List (List UInt8)} {v : Value} (h : VRel N ρ w (.sl none ps.length (ps.map sA)) v) (hN : ∀ b o, N b o → b < w.heap.size) : Strs w v ps := by
  cases h with
  | sl o n cs a cap vals hc h ho hn hz hm =>
    refine ⟨a, cap, rfl, hn, hm, fun i hi => ?_⟩
    obtain ⟨_, b, off, ha, hx, hnn⟩ := hc i (by simpa using hi)
    have hv := (h i (.v (.string (B (sget ps i)))) (by simp [sget, hi])).raw
    refine ⟨b, off, ha, hN _ _ hnn, ?_⟩
    rw [hx, hv]
    rfl
theorem vrel_of {w : World} {ps : List (List UInt8)} {v : Value} (h : Strs w v ps) : VRel (allN w) noE w (.sl none ps.length (ps.map sA)) v := by
  obtain ⟨a, cap, rfl, h1, h2, hc⟩ := h
  refine .sl none _ _ a cap (fun i => sv (sget ps i)) (fun i hi => ?_) (fun i c hc' => ?_) (fun k hk => by cases hk) h1 (fun ha => ?_) h2
  · obtain ⟨b, off, ha, hb, hx⟩ := hc i (by simpa using hi)
    exact ⟨rfl, b, off, ha, hx, hb⟩
  · rw [List.getElem?_map] at hc'
    cases hp : ps[i]? with
    | none => rw [hp] at hc'; cases hc'
    | some p =>
      rw [hp] at hc'
      cases hc'
      have : sget ps i = p := by simp [sget, hp]
      show VRel _ _ _ _ (sv (sget ps i))
      rw [this]
      exact .v _
  · cases hps : ps with
    | nil => rfl
    | cons p r =>
      obtain ⟨b, off, ha', _⟩ := hc 0 (by simp [hps])
      rw [ha] at ha'
      cases ha'
theorem fit_cells (n : Nat) (l : List UInt8) : ((splice (List.replicate n (.v (.int .u8 0))) 0 ((l.take n).map bA)).drop 0).take n = (fit n l).map bA := by
  have h1 : (l.take n).length ≤ n := by simp; omega
  have h0 : (.v (.int .u8 0) : AV) = bA 0 := rfl
  unfold splice fit
  rw [h0]
  generalize l.take n = m at *
  rw [List.take_zero, List.nil_append, List.drop_zero, List.length_map, Nat.zero_add, List.drop_replicate, List.map_append, List.map_replicate, List.take_of_length_le]
  simp
  omega
theorem two {vs : Array Value} (h : vs.size = 2) : ∃ a b, vs = #[a, b] := by
  obtain ⟨l⟩ := vs
  match l, h with
  | [a, b], _ => exact ⟨a, b, rfl⟩
theorem input_fc {G : List (Nat × Array Value)} (d : UInt8) (ps : List (List UInt8)) (hL : (input d ps).length ≤ 140737488355328) :
    FC Tryd.prog G 41 [.v (.int .u8 (U8 d)), .sl none ps.length (ps.map sA)] [] (sA (input d ps)) [] :=
  FC.of_calls Tryd.func41 rfl rfl ⟨trivial, ⟨by simp, belL_s _ _⟩, trivial⟩ fun A vs hG HS hsz h => by
    obtain ⟨a, v, rfl⟩ := two hsz
    obtain rfl := (h 0 _ _ rfl rfl).raw
    exact input_ok d v ps A.w (strs_of (h 1 _ _ rfl rfl) fun b o hb => hb.1) hL
theorem tag_fc {G : List (Nat × Array Value)} (hm : ShaIn G) (d : UInt8) (ps : List (List UInt8)) (hL : (input d ps).length ≤ 140737488355328) :
    FC Tryd.prog G 25 [.v (.int .u8 (U8 d)), .sl none ps.length (ps.map sA)] [] (sA (tag d ps)) [] :=
  FC.of_calls Tryd.func25 rfl rfl ⟨trivial, ⟨by simp, belL_s _ _⟩, trivial⟩ fun A vs hG HS hsz h => by
    obtain ⟨a, v, rfl⟩ := two hsz
    obtain rfl := (h 0 _ _ rfl rfl).raw
    exact tag_ok d v ps A.w (tabs_hsat HS hG hm) (strs_of (h 1 _ _ rfl rfl) fun b o hb => hb.1) hL
end Go.Proofs.YtmmoadhjlgbmhaaDoor.E
end
section
/- Functions as values: variables that nobody writes any more, closures, calls of them; nothing as a row to append to. -/
namespace Go.Proofs.YtmmoadhjlgbmhaaDoor.E
open Go Go.RowKit Go.Proofs.YtmmoadhjlgbmhaaDoor.V
section
variable {P : Program} {G : List (Nat × Array Value)} {dst : Option Tmp} {ty : TypeId} {pos : String} {aft : Array Edge} {gd : Option (Nat × Bool)}
/-- a variable with a value that nobody writes any more -/
theorem OpS.boxS {T : TypeId} {x : Operand} {y : AV} : OpS P G ⟨dst, .box T x, ty, pos, aft, gd⟩ [(x, y)] [] ⟨some (.sptr (cellsA y)), [], []⟩ := by
  refine OpS.act fun A ρ σ a w _ h hp hu hs => ?_
  obtain ⟨c1, c2⟩ := cellsA_rel (hs.ev h.1)
  obtain ⟨k1, k2, k3⟩ := hs.mem.grow (w' := w.alloc (.cells (a.eval x).cells T)) rfl rfl rfl (by simp) (fun k hk => Below.heap_alloc w _ k hk)
  refine ⟨.pointer (some ⟨w.heap.size, 0, none⟩), w.alloc (.cells (a.eval x).cells T), ρ, .inl ?_, k1, k2, fun v hv => by
    cases hv
    have hgd : ∀ i, i < (cellsA y).length → (a.eval x).cells[i]? = some ((a.eval x).cells.getD i undef) := fun i hi => by
      have : i < (a.eval x).cells.size := by omega
      simp [Array.getD_eq_getD_getElem?, this]
    refine .sptr (cellsA y) w.heap.size 0 (fun i => (a.eval x).cells.getD i undef) (fun i hi => ⟨?_, k3 _ _ (Nat.le_refl _) (by simp)⟩) (fun i c hc => ?_)
    · rw [cell_of_row _ w.heap.size (0 + i) (a.eval x).cells T (0, 0) (heap_alloc_new w _), Nat.zero_add]
      exact hgd i hi
    · exact k2 _ _ (c2 i c _ hc (hgd i (List.getElem?_eq_some_iff.1 hc).1))⟩
  refine runv (s := Instr.box T (a.eval x)) ?_
  simp [Instr.box, newVar, newRow, Sem.run_bind, Sem.run_pure, Result.andThen_ok]
theorem OpS.makeFunc {fn : Fn} {xs : List Operand} {ys : List AV} (hl : xs.length = ys.length) : OpS P G ⟨dst, .makeFunc fn #[] xs.toArray, ty, pos, aft, gd⟩ (xs.zip ys) [] ⟨some (.fn fn [] ys), [], []⟩ :=
  OpS.still fun A ρ σ a w _ h _ hs => ⟨.func fn #[] (xs.map a.eval).toArray, by
    have e : execOp a.eval ⟨dst, .makeFunc fn #[] xs.toArray, ty, pos, aft, gd⟩ = (do pure (Next.value (← Instr.makeFunc fn (#[].map a.eval) (xs.toArray.map a.eval)))) := rfl
    rw [e]
    refine runv ?_
    simp [Instr.makeFunc], .fn fn [] ys _ _ rfl (fun i c x hc => by simp at hc) (by simp [hl]) (fun i c x hc hx => by
      rw [List.getElem?_toArray, List.getElem?_map] at hx
      cases hxi : xs[i]? with
      | none => rw [hxi] at hx; cases hx
      | some o => rw [hxi] at hx; cases hx; exact ev_ops hs h i o c hxi hc)⟩
/-- a call of a closure -/
theorem OpS.callF {f : FuncId} {args : List AV} {H H' : List (Option AO)} {res : AV} (F : FC P G f args H res H') (old : List Nat) (base : Nat) (hol : old.length = H.length) (hnd : old.Nodup) (hlt : ∀ x ∈ old, x < base)
    {c : Operand} {xs : List Operand} {ys caps : List AV} (ho : xs.length = ys.length) (hwk : WkL (ys ++ caps) (args.map (AV.ren (pi old base)))) {ats : Array TypeId} :
    OpS P G ⟨dst, .call ⟨.value c, xs.toArray, ats⟩, ty, pos, aft, gd⟩ ((c :: xs).zip (.fn (.func f) [] caps :: ys)) (hpl (pi old base) old H) (callEff old base res H.length H') := by
  constructor
  intro A ρ σ a w K Q hG h1 h2 h3 hd hs hK
  obtain ⟨fn, cd, hf, hname, hb⟩ := F.enter
  have hcv := hs.ev h1.1
  obtain ⟨us, hus, hcap, hev⟩ : ∃ us : Array Value, us.size = caps.length ∧ (∀ (i : Nat) (c : AV) (x : Value), caps[i]? = some c → us[i]? = some x → VRel (Nh A σ.h ρ w) ρ w c x) ∧ a.eval c = .func (.func f) #[] us := by
    generalize a.eval c = v at hcv
    cases hcv with
    | fn f' fs cs vs us hs1 k1 hs2 k2 =>
      refine ⟨us, hs2, k2, ?_⟩
      obtain rfl := Array.eq_empty_of_size_eq_zero (by simpa using hs1)
      rfl
  have hrun : (execOp a.eval ⟨dst, .call ⟨.value c, xs.toArray, ats⟩, ty, pos, aft, gd⟩).run P w = .ok (.enter f ((xs.map a.eval).toArray ++ us)) w := by
    have := run_enter hf hname hb ((xs.map a.eval).toArray ++ us) w
    show (do let d ← Deferred.ofValue (a.eval c) (xs.toArray.map a.eval); invoke d.target d.args : Sem Next).run P w = _
    rw [hev]
    show (callFunc f (#[] ++ xs.toArray.map a.eval ++ us)).run P w = _
    simpa using this
  unfold Oper.wp
  rw [hrun, Oper.upon_enter]
  refine (call_sat F hol hnd hlt hG hs h2 h3 hd (vs := (xs.map a.eval).toArray ++ us) (ys := ys ++ caps) (by simp [ho, hus]) ?_ hwk).mono ?_
  · intro i y x hy hx
    by_cases hi : i < ys.length
    · rw [List.getElem?_append_left hi] at hy
      rw [Array.getElem?_append_left (by simp [ho]; exact hi), List.getElem?_toArray, List.getElem?_map] at hx
      cases hxi : xs[i]? with
      | none => rw [hxi] at hx; cases hx
      | some o => rw [hxi] at hx; cases hx; exact ev_ops hs h1.2 i o y hxi hy
    · rw [List.getElem?_append_right (by omega)] at hy
      rw [Array.getElem?_append_right (by simp [ho]; omega)] at hx
      simp only [List.size_toArray, List.length_map, ho] at hx
      exact hcap _ y x hy hx
  · rintro e w' ⟨v, ρ', rfl, hs'⟩
    exact hK _ _ ρ' hs'
end
section
variable {P : Program} {G : List (Nat × Array Value)} {l r : List Oper} {K : AS → Prop} {n : Nat} {s : Nat → Option AV} {h : Nat → Option AO} {u : Nat → Bool} {d : Tmp} {ty : TypeId} {pos : String} {aft : Array Edge} {gd : Option (Nat × Bool)} {D : Bool} {acc : List St}
theorem Ch.mf {fn : Fn} {xs : List Operand} {ys : List AV} (hg : GdOk l.toArray ⟨some d, .makeFunc fn #[] xs.toArray, ty, pos, aft, gd⟩ ⟨n, s, h, u⟩ true) (hev : EvL ⟨n, s, h, u⟩ xs ys) (hd : Nat.blt d n = true)
    (hr : Ch P G l D K (⟨true, xs.zip ys, [], ⟨some (.fn fn [] ys), [], []⟩⟩ :: acc) r ⟨n, upd s d (some (.fn fn [] ys)), h, u⟩) :
    Ch P G l D K acc (⟨some d, .makeFunc fn #[] xs.toArray, ty, pos, aft, gd⟩ :: r) ⟨n, s, h, u⟩ :=
  Ch.pul hg hev (OpS.makeFunc hev.ok.2) hd hr
/-- a call of a closure that only computes -/
theorem Ch.callF {f : FuncId} {args : List AV} {res : AV} (F : FC P G f args [] res []) {c : Operand} {xs : List Operand} {ys caps : List AV} {ats : Array TypeId}
    (hg : GdOk l.toArray ⟨some d, .call ⟨.value c, xs.toArray, ats⟩, ty, pos, aft, gd⟩ ⟨n, s, h, u⟩ true) (hev : EvL ⟨n, s, h, u⟩ (c :: xs) (.fn (.func f) [] caps :: ys)) (hwk : WkL (ys ++ caps) (args.map (AV.ren (pi [] 0)))) {res' : AV} (hres : res.ren (pi [] 0) = res') (hd : Nat.blt d n = true)
    (hr : Ch P G l D K (⟨true, (c :: xs).zip (.fn (.func f) [] caps :: ys), [], ⟨some res', [], []⟩⟩ :: acc) r ⟨n, upd s d (some res'), h, u⟩) :
    Ch P G l D K acc (⟨some d, .call ⟨.value c, xs.toArray, ats⟩, ty, pos, aft, gd⟩ :: r) ⟨n, s, h, u⟩ := by
  subst hres
  have hlen : xs.length = ys.length := by have := hev.ok.2; simpa using this
  exact Ch.cons (st := ⟨true, (c :: xs).zip (.fn (.func f) [] caps :: ys), [], ⟨some (res.ren (pi [] 0)), [], []⟩⟩) ⟨hg, fun _ => ⟨OpS.callF F [] 0 rfl (by simp) (by simp) hlen hwk, hev.ok.1, trivial, trivial, fun t ht => by cases ht; exact Nat.blt_eq.mp hd⟩, fun h => nomatch h⟩ hr
end
/-- an entry is forgotten: its cells are never written again -/
theorem HSat.drop {A : Amb} {ρ : Env} {h : Nat → Option AO} {u : Nat → Bool} {w : World} (H : HSat A ρ h u w) (id : Nat) : HSat A ρ (upd h id none) u w ∧ ∀ av x, VRel (Nh A h ρ w) ρ w av x → VRel (Nh A (upd h id none) ρ w) ρ w av x := by
  have hold : ∀ i ob, upd h id none i = some ob → h i = some ob := fun i ob hi => by
    rcases upd_eq_some hi with ⟨_, he⟩ | ⟨_, he⟩
    · cases he
    · exact he
  exact H.next (w' := w) (ρ' := ρ) (u' := u) rfl rfl rfl (Nat.le_refl _) (fun i hi => ⟨hi, rfl, rfl⟩) H.usedB H.usedT (fun _ _ _ => rfl) (fun _ _ _ => rfl)
    (fun i ob b o hi hw => .inl ⟨i, ob, hold i ob hi, hw⟩) (fun i ob b hi hw => .inl ⟨i, ob, hold i ob hi, hw⟩) (fun i j oi oj b hi hj => H.sep i j oi oj b (hold i oi hi) (hold j oj hj))
    (fun hV i ob hi => (H.heap i ob (hold i ob hi)).keep (Env.le_refl _) hV (fun _ _ => rfl))
/-- what an entry holds, told in other words -/
theorem HSat.recell {A : Amb} {ρ : Env} {h : Nat → Option AO} {u : Nat → Bool} {w : World} (H : HSat A ρ h u w) {id : Nat} {T : TypeId} {cs cs' : List AV} (hid : h id = some (.cells T cs)) (hl : cs'.length ≤ cs.length)
    (hc : ∀ (j : Nat) (c c' : AV) (x : Value), cs[j]? = some c → cs'[j]? = some c' → VRel (Nh A h ρ w) ρ w c x → VRel (Nh A h ρ w) ρ w c' x) :
    HSat A ρ (upd h id (some (.cells T cs'))) u w ∧ ∀ av x, VRel (Nh A h ρ w) ρ w av x → VRel (Nh A (upd h id (some (.cells T cs'))) ρ w) ρ w av x := by
  have hold : ∀ i ob, upd h id (some (.cells T cs')) i = some ob → (i = id ∧ ob = .cells T cs') ∨ (i ≠ id ∧ h i = some ob) := fun i ob hi => by
    rcases upd_eq_some hi with ⟨h1, he⟩ | ⟨h1, he⟩
    · cases he; exact .inl ⟨h1, rfl⟩
    · exact .inr ⟨h1, he⟩
  have old2 : ∀ i ob, upd h id (some (.cells T cs')) i = some ob → ∃ ob', h i = some ob' ∧ (∀ b, ob.at_ ρ i b → ob'.at_ ρ i b) ∧ ∀ b o, ob.wr ρ i b o → ob'.wr ρ i b o := fun i ob hi => by
    rcases hold i ob hi with ⟨rfl, rfl⟩ | ⟨_, he⟩
    · exact ⟨_, hid, fun _ h => h, fun _ _ h => h⟩
    · exact ⟨_, he, fun _ h => h, fun _ _ h => h⟩
  refine H.next (w' := w) (ρ' := ρ) (u' := u) rfl rfl rfl (Nat.le_refl _) (fun i hi => ⟨hi, rfl, rfl⟩) H.usedB H.usedT (fun _ _ _ => rfl) (fun _ _ _ => rfl)
    (fun i ob b o hi hw => by obtain ⟨ob', h1, _, h3⟩ := old2 i ob hi; exact .inl ⟨i, ob', h1, h3 b o hw⟩) (fun i ob b hi hw => by obtain ⟨ob', h1, h2, _⟩ := old2 i ob hi; exact .inl ⟨i, ob', h1, h2 b hw⟩)
    (fun i j oi oj b hi hj h1 h2 => by
      obtain ⟨oi', k1, k2, _⟩ := old2 i oi hi
      obtain ⟨oj', m1, m2, _⟩ := old2 j oj hj
      exact H.sep i j oi' oj' b k1 m1 (k2 b h1) (m2 b h2))
    (fun hV i ob hi => ?_)
  rcases hold i ob hi with ⟨rfl, rfl⟩ | ⟨_, he⟩
  · obtain ⟨b, arr, k1, k2, k3, k4⟩ := H.heap i _ hid
    refine ⟨b, arr, k1, k2, by omega, fun j c' x hc' hx => ?_⟩
    have hj := (List.getElem?_eq_some_iff.1 hc').1
    obtain ⟨c, hcj⟩ : ∃ c, cs[j]? = some c := ⟨_, List.getElem?_eq_getElem (by omega)⟩
    exact ⟨hV _ _ (hc j c c' x hcj hc' (k4 j c x hcj hx).1), (k4 j c x hcj hx).2⟩
  · exact (H.heap i ob he).keep (Env.le_refl _) hV (fun _ _ => rfl)
section
variable {A : Amb} {n : Nat} {s : Nat → Option AV} {h : Nat → Option AO} {u : Nat → Bool}
/-- a variable that nobody writes any more -/
theorem SEnt.frz {t id : Nat} {T : TypeId} {cs : List AV} (hs : s t = some (.ptr id 0)) (hh : h id = some (.cells T cs)) : SEnt A ⟨n, s, h, u⟩ ⟨n, upd s t (some (.sptr cs)), upd h id none, u⟩ := by
  intro ρ a w hst
  obtain ⟨x, hx, hv⟩ := hst.slots t _ hs
  obtain ⟨b', arr, h1, h2, h3, h4⟩ := hst.mem.heap id _ hh
  obtain ⟨m1, m2⟩ := hst.mem.drop id
  refine ⟨ρ, m1, fun t' v' ht' => ?_, hst.nt, hst.defers⟩
  rcases upd_eq_some (f := s) ht' with ⟨rfl, he⟩ | ⟨_, he⟩
  · cases he
    cases hv with
    | ptr _ _ b hb =>
      obtain rfl : b = b' := by rw [hb] at h1; exact Option.some.inj h1
      refine ⟨_, hx, .sptr cs b 0 (fun i => arr.getD i undef) (fun i hi => ⟨?_, ?_⟩) (fun i c hc => ?_)⟩
      · have hlt : i < arr.size := by omega
        rw [cell_of_row w b (0 + i) arr T (0, 0) h2, Nat.zero_add]
        simp [Array.getD_eq_getD_getElem?, hlt]
      · refine ⟨(Array.getElem?_eq_some_iff.1 h2).1, .inr (hst.mem.own id _ b (0 + i) hh hb), fun i' ob hi' hw => ?_⟩
        rcases upd_eq_some (f := h) hi' with ⟨_, he⟩ | ⟨hne, he⟩
        · cases he
        · exact hne (hst.mem.sep i' id ob _ b he hh (AO.at_of_wr hw) hb)
      · have hi := (List.getElem?_eq_some_iff.1 hc).1
        have hlt : i < arr.size := by omega
        exact m2 _ _ (h4 i c _ hc (by simp [Array.getD_eq_getD_getElem?, hlt])).1
  · obtain ⟨y, hy, hw⟩ := hst.slots t' v' he
    exact ⟨y, hy, m2 _ _ hw⟩
/-- nothing, as a row that may be appended to -/
theorem SEnt.nilTip {t : Nat} (c : Nat) (E : TypeId) (sz : Nat) (hs : s t = some (.v (.slice none 0 0))) (hu : u c = false) : SEnt A ⟨n, s, h, u⟩ ⟨n, upd s t (some (.sl (some c) 0 [])), upd h c (some (.tip E sz 0)), nuU u [c]⟩ := by
  intro ρ a w hst
  let ρ' : Env := ⟨ρ.blk, upd ρ.tip c (some (.slice none 0 0))⟩
  have hid : ρ'.tip c = some (.slice none 0 0) := upd_same _ _ _
  obtain ⟨m1, m2⟩ := hst.mem.extend (ρ' := ρ') (ob := .tip E sz 0) (w' := w) hu (fun i hi => ⟨rfl, upd_ne _ _ hi⟩) rfl rfl rfl (Nat.le_refl _) (fun k hk => rfl) (fun b ⟨cap, hb⟩ => by rw [hid] at hb; cases hb) (fun _ => .inl ⟨hid, rfl⟩)
  refine ⟨ρ', m1, fun t' v' ht' => ?_, hst.nt, hst.defers⟩
  rcases upd_eq_some (f := s) ht' with ⟨rfl, he⟩ | ⟨_, he⟩
  · cases he
    obtain ⟨x, hx, hv⟩ := hst.slots t' _ hs
    rw [hv.raw] at hx
    exact ⟨_, hx, .sl _ _ _ _ _ (fun _ => undef) (fun i hi => by cases hi) (fun i c hc => by simp at hc) (fun k hk => by cases hk; exact hid) (Nat.le_refl _) (fun _ => rfl) (by unfold maxLen; omega)⟩
  · obtain ⟨y, hy, hw⟩ := hst.slots t' v' he
    exact ⟨y, hy, m2 _ _ hw⟩
/-- the same, of nothing that lies in an entry -/
theorem SEnt.nilCell {id off : Nat} {T : TypeId} {cs : List AV} (c : Nat) (E : TypeId) (sz : Nat) (hh : h id = some (.cells T cs)) (hc : cs[off]? = some (.v (.slice none 0 0))) (hu : u c = false) (hne : (Nat.beq c id) = false) :
    SEnt A ⟨n, s, h, u⟩ ⟨n, s, upd (upd h c (some (.tip E sz 0))) id (some (.cells T (cs.set off (.sl (some c) 0 [])))), nuU u [c]⟩ := by
  intro ρ a w hst
  have hne' : id ≠ c := fun e => by subst e; simp at hne
  let ρ' : Env := ⟨ρ.blk, upd ρ.tip c (some (.slice none 0 0))⟩
  have hid : ρ'.tip c = some (.slice none 0 0) := upd_same _ _ _
  obtain ⟨m1, m2⟩ := hst.mem.extend (ρ' := ρ') (ob := .tip E sz 0) (w' := w) hu (fun i hi => ⟨rfl, upd_ne _ _ hi⟩) rfl rfl rfl (Nat.le_refl _) (fun k hk => rfl) (fun b ⟨cap, hb⟩ => by rw [hid] at hb; cases hb) (fun _ => .inl ⟨hid, rfl⟩)
  obtain ⟨k1, k2⟩ := m1.recell (id := id) (T := T) (cs := cs) (cs' := cs.set off (.sl (some c) 0 [])) (by rw [upd_ne _ _ hne']; exact hh) (by simp) (fun j x x' y hx hx' hv => by
    by_cases hj : j = off
    · subst hj
      rw [hc] at hx
      cases hx
      have hlt := (List.getElem?_eq_some_iff.1 hc).1
      rw [List.getElem?_set_self hlt] at hx'
      cases hx'
      rw [hv.raw]
      exact .sl _ _ _ _ _ (fun _ => undef) (fun i hi => by cases hi) (fun i c hc => by simp at hc) (fun k hk => by cases hk; exact hid) (Nat.le_refl _) (fun _ => rfl) (by unfold maxLen; omega)
    · rw [List.getElem?_set_ne (fun e => hj e.symm), hx] at hx'
      cases hx'
      exact hv)
  exact ⟨ρ', k1, fun t' v' ht' => by obtain ⟨y, hy, hw⟩ := hst.slots t' v' ht'; exact ⟨y, hy, k2 _ _ (m2 _ _ hw)⟩, hst.nt, hst.defers⟩
end
end Go.Proofs.YtmmoadhjlgbmhaaDoor.E
end
