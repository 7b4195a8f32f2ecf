import Derived.Test.YtcojfnjpcpochaaDoorZ01300c1a
import Derived.Test.YtcojfnjpcpochaaDoorZ314a36b3
import Derived.Laws.Small
import Derived.Laws.Slices
import Derived.Test.YtcojfnjpcpochaaDoorZ3011c649
section
/- What layer 1 promises, by abstract steps. -/
namespace Go.Proofs.YtcojfnjpcpochaaDoor.E
open Go Go.RowKit Go.Proofs.YtcojfnjpcpochaaDoor.V
attribute [local go_sem] B_size B_append B_extract mk_B B_toList take_drop_len List.length_drop List.length_take sgn32 sgn64 add32 sub32 mul32 add64 sub64 mul64 mul64_8 and32 or32 xor32 and64 or64 xor64 shl32_run shr32_run shl64_run shr64_run not32 not32' xor32_all w_u32_u8 w_u64_u8 w_i64_u8 w_u8_u32 w_u8_u64 w_u32_u64 w_u64_u32 w_u8_u8 w_u32_u32 w_u64_u64
attribute [local go_sem ↓] run_index_B' add32 sub32 mul32 add64 sub64 mul64 mul64_8 and32 or32 xor32 and64 or64 xor64 shl32_run shr32_run shl64_run shr64_run not32 not32' xor32_all w_u32_u8 w_u64_u8 w_i64_u8 w_u8_u32 w_u8_u64 w_u32_u64 w_u64_u32 w_u8_u8 w_u32_u32 w_u64_u64 w_u64_nat w_u32_nat w_u8_nat
set_option maxRecDepth 4000

theorem vs_raw {N : Nat → Nat → Prop} {ρ : Env} {w : World} {xs : List Value} {args : List AV} {vs : Array Value} (he : args = xs.map AV.v) (hsz : vs.size = args.length) (h : ∀ (i : Nat) (c : AV) (x : Value), args[i]? = some c → vs[i]? = some x → VRel N ρ w c x) : vs = xs.toArray := by
  subst he
  apply Array.ext
  · simpa using hsz
  · intro i h1 h2
    have h2' : i < xs.length := by simpa using h2
    have := (h i (.v xs[i]) vs[i] (by simp [h2']) (Array.getElem?_eq_getElem h1)).raw
    simpa using this
def ShaIn (G : List (Nat × Array Value)) : Prop := (1, kArr) ∈ G ∧ (0, first.cells) ∈ G
theorem tabs_hsat {A : Amb} {h : Nat → Option AO} {u : Nat → Bool} {ρ : Env} {w : World} (H : HSat A ρ h u w) {G : List (Nat × Array Value)} (hG : A.G = G) (hm : ShaIn G) : Tabs w := by
  obtain ⟨T, h1⟩ := tab_of H hG (g := 1) (arr := kArr) hm.1
  obtain ⟨T', h2⟩ := tab_of H hG (g := 0) (arr := first.cells) hm.2
  refine ⟨⟨(Array.getElem?_eq_some_iff.1 h1).1, (Array.getElem?_eq_some_iff.1 h2).1⟩, fun i hi => cell_at h1 ?_, T', h2⟩
  have hi' : i < kTab.length := hi
  simp [kArr, lget, hi', wv]
theorem pad_fc {G : List (Nat × Array Value)} (n : Nat) (hn : (n : Int) ≤ 9223372036854775807) : FC Tryd.prog G 88 [.v (.int .i64 (n : Int))] [] (sA (pad n)) [] :=
  FC.of_calls Tryd.func88 rfl rfl ⟨trivial, trivial⟩ fun A vs hG HS hsz h => by
    obtain rfl := vs_raw (xs := [.int .i64 (n : Int)]) rfl hsz h
    exact pad_ok n A.w hn
theorem sum_fc {G : List (Nat × Array Value)} (hm : ShaIn G) (l : List UInt8) (hl : (l.length : Int) ≤ 9223372036854775000) : FC Tryd.prog G 76 [sA l] [] (sA (sum l)) [] :=
  FC.of_calls Tryd.func76 rfl rfl ⟨trivial, trivial⟩ fun A vs hG HS hsz h => by
    obtain rfl := vs_raw (xs := [.string (B l)]) rfl hsz h
    exact sum_ok l A.w (tabs_hsat HS hG hm) hl
end Go.Proofs.YtcojfnjpcpochaaDoor.E
end
section
/- The document's own answer for layer 1, by abstract steps: Sum, Input, Tag, and what is refused. -/
namespace Go.Proofs.YtcojfnjpcpochaaDoor.E
open Go Go.RowKit Go.Proofs.YtcojfnjpcpochaaDoor.V
attribute [local go_sem] B_size B_append B_extract mk_B B_toList take_drop_len List.length_drop List.length_take sgn32 sgn64 add32 sub32 mul32 add64 sub64 mul64 mul64_8 and32 or32 xor32 and64 or64 xor64 shl32_run shr32_run shl64_run shr64_run not32 not32' xor32_all w_u32_u8 w_u64_u8 w_i64_u8 w_u8_u32 w_u8_u64 w_u32_u64 w_u64_u32 w_u8_u8 w_u32_u32 w_u64_u64
attribute [local go_sem ↓] run_index_B' add32 sub32 mul32 add64 sub64 mul64 mul64_8 and32 or32 xor32 and64 or64 xor64 shl32_run shr32_run shl64_run shr64_run not32 not32' xor32_all w_u32_u8 w_u64_u8 w_i64_u8 w_u8_u32 w_u8_u64 w_u32_u64 w_u64_u32 w_u8_u8 w_u32_u32 w_u64_u64 w_u64_nat w_u32_nat w_u8_nat
set_option maxRecDepth 4000

section
variable {P : Program} {G : List (Nat × Array Value)} {dst : Option Tmp} {ty : TypeId} {pos : String} {aft : Array Edge} {gd : Option (Nat × Bool)}
theorem OpS.strEqT {t t' : TypeId} {x y : Operand} {a : List UInt8} :
    OpS P G ⟨dst, .binOp .eql t x y t', ty, pos, aft, gd⟩ [(x, .v (.string (B a))), (y, .v (.string (B a)))] [] ⟨some (.v (.bool true)), [], []⟩ := by
  have := OpS.strEql (P := P) (G := G) (dst := dst) (ty := ty) (pos := pos) (aft := aft) (gd := gd) (t := t) (t' := t') (x := x) (y := y) (a := a) (b := a)
  simpa using this
theorem OpS.shrN {t t' : TypeId} {x y : Operand} {n j : Nat} {k' : IntKind} {m : Int} (h : m = (j : Int)) (hj : j ≤ 64) :
    OpS P G ⟨dst, .binOp .shr t x y t', ty, pos, aft, gd⟩ [(x, .v (.int .i64 (n : Int))), (y, .v (.int k' m))] [] ⟨some (.v (.int .i64 ((n / 2 ^ j : Nat) : Int))), [], []⟩ := by
  subst h
  refine OpS.binR rfl fun w => ?_
  show (Op.shift .shr .i64 (n : Int) k' (j : Int)).run P w = _
  unfold Op.shift
  rw [if_neg (by omega)]
  show Result.ok (Value.int .i64 ((n : Int).fdiv (2 ^ (min ((j : Int)).toNat 64)))) w = _
  rw [Int.toNat_natCast, Nat.min_eq_left hj, Int.fdiv_eq_ediv_of_nonneg _ (by have := Int.natCast_nonneg (2 ^ j : Nat); push_cast at this; exact this), Int.natCast_ediv, Int.natCast_pow]
  rfl
end

theorem rpadN_fc {G : List (Nat × Array Value)} (n : Int) (hn : n < 0) : FC Tryd.prog G 92 [.v (.int .i64 n)] [] (sA []) [] := by
  refine FC.of_wp [2] Tryd.func92 rfl rfl rfl rfl (by first | trivial | (simp; first | done | fail) | exact ⟨trivial, hbel _⟩) (by first | trivial | (simp; first | done | fail) | exact ⟨trivial, hbel _⟩) (by exact Nat.le_of_ble_eq_true rfl) ?_
  intro A hG hnA hAB
  unfold start
  refine WP.rs hG ?_
  refine Ch.pu gdN (by exact ⟨rfl, trivial⟩) (OpS.assign) trivial rfl ?_
  refine Ch.nil ?_
  refine WP.seq ?_
  refine WP.rs hG ?_
  refine Ch.pu gdN (by exact ⟨rfl, trivial⟩) (OpS.move) trivial rfl ?_
  refine Ch.pu gdN (by exact ⟨rfl, rfl, trivial⟩) (OpS.int (v' := .bool true) rfl (by simp; omega)) trivial rfl ?_
  refine Ch.nil ?_
  refine WP.cond_true rfl ?_
  refine WP.rs hG ?_
  refine Ch.pu gdN (by exact ⟨rfl, trivial⟩) (OpS.assign) trivial rfl ?_
  refine Ch.nil ?_
  refine WP.ret (Ret.one rfl (by first | exact .rfl _ | exact .nil | exact .of_eq (by simp; first | done | fail) | exact AV.wk.sh (by simp; first | done | fail) | exact .untip _ _ _) (by first | trivial | simp [AV.bel]) hnA)
theorem rblockA_fc {G : List (Nat × Array Value)} (s b : List UInt8) (hs : s.length ≠ 32) : FC Tryd.prog G 93 [sA s, sA b] [] (sA []) [] := by
  refine FC.of_wp [4] Tryd.func93 rfl rfl rfl rfl (by first | trivial | (simp; first | done | fail) | exact ⟨trivial, hbel _⟩) (by first | trivial | (simp; first | done | fail) | exact ⟨trivial, hbel _⟩) (by exact Nat.le_of_ble_eq_true rfl) ?_
  intro A hG hnA hAB
  unfold start
  refine WP.rs hG ?_
  refine Ch.pu gdN (by exact ⟨rfl, trivial⟩) (OpS.assign) trivial rfl ?_
  refine Ch.nil ?_
  refine WP.seq ?_
  refine WP.rs hG ?_
  refine Ch.pu gdN (by exact ⟨rfl, trivial⟩) (OpS.move) trivial rfl ?_
  refine Ch.pu gdN (by exact ⟨rfl, trivial⟩) (OpS.lenS rfl) (by first | exact trivial | exact ⟨rfl, trivial⟩) rfl ?_
  refine Ch.pu gdN (by exact ⟨rfl, rfl, trivial⟩) (OpS.int (v' := .bool true) rfl (by simp; omega)) trivial rfl ?_
  refine Ch.pu gdN (by exact ⟨rfl, trivial⟩) (OpS.move) trivial rfl ?_
  refine Ch.skU (gdF rfl rfl rfl) rfl ?_
  refine Ch.skU (gdF rfl rfl rfl) rfl ?_
  refine Ch.skU (gdF rfl rfl rfl) rfl ?_
  refine Ch.pu gdN (by first | exact ⟨rfl, rfl, trivial⟩ | exact ⟨rfl, rfl, rfl, trivial⟩) (OpS.pickT) trivial rfl ?_
  refine Ch.nil ?_
  refine WP.cond_true rfl ?_
  refine WP.rs hG ?_
  refine Ch.pu gdN (by exact ⟨rfl, trivial⟩) (OpS.assign) trivial rfl ?_
  refine Ch.nil ?_
  refine WP.ret (Ret.one rfl (by first | exact .rfl _ | exact .nil | exact .of_eq (by simp; first | done | fail) | exact AV.wk.sh (by simp; first | done | fail) | exact .untip _ _ _) (by first | trivial | simp [AV.bel]) hnA)
theorem rblockB_fc {G : List (Nat × Array Value)} (s b : List UInt8) (hs : s.length = 32) (hb : b.length ≠ 64) : FC Tryd.prog G 93 [sA s, sA b] [] (sA []) [] := by
  refine FC.of_wp [4] Tryd.func93 rfl rfl rfl rfl (by first | trivial | (simp; first | done | fail) | exact ⟨trivial, hbel _⟩) (by first | trivial | (simp; first | done | fail) | exact ⟨trivial, hbel _⟩) (by exact Nat.le_of_ble_eq_true rfl) ?_
  intro A hG hnA hAB
  unfold start
  refine WP.rs hG ?_
  refine Ch.pu gdN (by exact ⟨rfl, trivial⟩) (OpS.assign) trivial rfl ?_
  refine Ch.nil ?_
  refine WP.seq ?_
  refine WP.rs hG ?_
  refine Ch.pu gdN (by exact ⟨rfl, trivial⟩) (OpS.move) trivial rfl ?_
  refine Ch.pu gdN (by exact ⟨rfl, trivial⟩) (OpS.lenS rfl) (by first | exact trivial | exact ⟨rfl, trivial⟩) rfl ?_
  refine Ch.pu gdN (by exact ⟨rfl, rfl, trivial⟩) (OpS.int (v' := .bool false) rfl (by simp [hs]; first | done | fail)) trivial rfl ?_
  refine Ch.pu gdN (by exact ⟨rfl, trivial⟩) (OpS.move) trivial rfl ?_
  refine Ch.pu (by exact gdT rfl rfl) (by exact ⟨rfl, trivial⟩) (OpS.move) trivial rfl ?_
  refine Ch.pu (by exact gdT rfl rfl) (by exact ⟨rfl, trivial⟩) (OpS.lenS rfl) (by first | exact trivial | exact ⟨rfl, trivial⟩) rfl ?_
  refine Ch.pu (by exact gdT rfl rfl) (by exact ⟨rfl, rfl, trivial⟩) (OpS.int (v' := .bool true) rfl (by simp; omega)) trivial rfl ?_
  refine Ch.pu gdN (by first | exact ⟨rfl, rfl, trivial⟩ | exact ⟨rfl, rfl, rfl, trivial⟩) (OpS.pickF) trivial rfl ?_
  refine Ch.nil ?_
  refine WP.cond_true rfl ?_
  refine WP.rs hG ?_
  refine Ch.pu gdN (by exact ⟨rfl, trivial⟩) (OpS.assign) trivial rfl ?_
  refine Ch.nil ?_
  refine WP.ret (Ret.one rfl (by first | exact .rfl _ | exact .nil | exact .of_eq (by simp; first | done | fail) | exact AV.wk.sh (by simp; first | done | fail) | exact .untip _ _ _) (by first | trivial | simp [AV.bel]) hnA)

theorem eat_next (m : Nat) (v : V.St) (l : List UInt8) (h : 64 * m ≤ l.length) : eat (m + 1) v l = mixed (eat m v l) ((l.drop (64 * m)).take 64) := by
  have hx : (l.take (64 * m)).length = 64 * m := by simp; omega
  have h1 := eat_append m 1 v (l.take (64 * m)) (l.drop (64 * m)) hx
  have h0 := eat_append m 0 v (l.take (64 * m)) (l.drop (64 * m)) hx
  rw [List.take_append_drop] at h1 h0
  have h0' : eat m v l = eat m v (l.take (64 * m)) := h0
  rw [h1, h0']
  rfl
theorem sum_eat (l : List UInt8) : ∃ q, (l ++ pad l.length).length = 64 * q ∧ sum l = (eat q first (l ++ pad l.length)).text := by
  have hp := pad_len l.length
  refine ⟨(l ++ pad l.length).length / 64, ?_, rfl⟩
  rw [List.length_append]
  omega
attribute [local irreducible] mixed readSt St.text pad sum
theorem rsum_fc {G : List (Nat × Array Value)} (hk : (3, kArr) ∈ G) (hf : (2, first.cells) ∈ G) (l : List UInt8) (hl : (l.length : Int) ≤ 9223372036854775000) :
    FC Tryd.prog G 80 [sA l] [] (sA (sum l)) [] := by
  refine FC.of_wp [2] Tryd.func80 rfl rfl rfl rfl (by first | trivial | (simp; first | done | fail) | exact ⟨trivial, hbel _⟩) (by first | trivial | (simp; first | done | fail) | exact ⟨trivial, hbel _⟩) (by exact Nat.le_of_ble_eq_true rfl) ?_
  intro A hG hnA hAB
  unfold start
  refine WP.rs hG ?_
  refine Ch.pu gdN (by exact ⟨rfl, trivial⟩) (OpS.assign) trivial rfl ?_
  refine Ch.nil ?_
  refine WP.rs hG ?_
  refine Ch.callP (first_fc hf) gdN (by repeat (first | exact EvL.nil | (apply EvL.cons; exact rfl))) (by exact trivial) (by rfl) rfl ?_
  refine Ch.pu gdN (by exact ⟨rfl, trivial⟩) (OpS.assign) trivial rfl ?_
  refine Ch.nil ?_
  have hp := pad_len l.length
  refine WP.rs hG ?_
  refine Ch.pu gdN (by exact ⟨rfl, trivial⟩) (OpS.move) trivial rfl ?_
  refine Ch.pu gdN (by exact ⟨rfl, trivial⟩) (OpS.move) trivial rfl ?_
  refine Ch.pu gdN (by exact ⟨rfl, trivial⟩) (OpS.lenS rfl) (by first | exact trivial | exact ⟨rfl, trivial⟩) rfl ?_
  refine Ch.callP (rpad_fc l.length (by omega)) gdN (by repeat (first | exact EvL.nil | (apply EvL.cons; exact rfl))) (by exact (And.intro (by first | exact .rfl _ | exact .untip _ _ _ | exact .nil | exact .func _ | exact AV.wk.sh (renL_s _ _) | exact AV.wk.sh (by simp; first | done | fail)) trivial)) (by rfl) rfl ?_
  refine Ch.pu gdN (by exact ⟨rfl, rfl, trivial⟩) (OpS.strAdd (by omega)) trivial rfl ?_
  refine Ch.pu gdN (by exact ⟨rfl, trivial⟩) (OpS.assign) trivial rfl ?_
  refine Ch.nil ?_
  refine WP.seq ?_
  obtain ⟨q, hq, hs⟩ := sum_eat l
  have hpl : (l ++ pad l.length).length ≤ 9223372036854775100 := by rw [List.length_append]; omega
  generalize l ++ pad l.length = X at *
  refine WP.rs hG ?_
  refine Ch.pu gdN (by exact ⟨rfl, trivial⟩) (OpS.assign) trivial rfl ?_
  refine Ch.nil ?_
  refine WP.block ?_
  refine WP.loop (fun k σ => ∃ m ii : Nat, (ii = 64 * m ∧ m + k = q) ∧ σ = ⟨27, ls [(3, sA (eat m first X).text), (4, sA X), (5, .v (.int .i64 (ii : Int)))], lh [], blt 0⟩) (q) (Ent.of [] ?_ ?_ ?_ ?_).se ⟨0, 0, by omega, rfl⟩ ?_
  · exact (fun i hi => by rw [hnA] at hi; simp only [List.length_cons, List.length_nil] at hi ⊢; first | exact absurd hi (Nat.not_lt_zero _) | (revert i; decide))
  · (repeat (first | exact trivial | (refine And.intro ⟨(by first | trivial | (simp; first | done | fail) | exact ⟨trivial, hbel _⟩), _, rfl, (by first | exact .rfl _ | exact .nil | exact .of_eq (by simp; first | done | fail) | exact AV.wk.sh (by simp; first | done | fail) | exact .untip _ _ _)⟩ ?_)))
  · (repeat (first | exact trivial | (refine And.intro ⟨rfl, (by first | trivial | (simp; first | done | fail) | exact ⟨trivial, hbel _⟩), (by first | rfl | (simp; first | done | fail))⟩ ?_)))
  · simp [rn]
  · rintro k σ ⟨m, ii, ⟨hi, hm⟩, rfl⟩
    have hc := eat_next m first X (by omega)
    rw [← hi, ← readSt_text (eat m first X)] at hc
    refine WP.seq ?_
    refine WP.rs hG ?_
    refine Ch.pu gdN (by exact ⟨rfl, trivial⟩) (OpS.move) trivial rfl ?_
    refine Ch.pu gdN (by exact ⟨rfl, rfl, trivial⟩) (OpS.int rfl (by first | exact wr64 (by omega) | exact rfl)) trivial rfl ?_
    refine Ch.pu gdN (by exact ⟨rfl, trivial⟩) (OpS.move) trivial rfl ?_
    refine Ch.pu gdN (by exact ⟨rfl, trivial⟩) (OpS.lenS rfl) (by first | exact trivial | exact ⟨rfl, trivial⟩) rfl ?_
    refine Ch.pu gdN (by exact ⟨rfl, rfl, trivial⟩) (OpS.int rfl (by first | exact wr64 (by omega) | exact rfl)) trivial rfl ?_
    refine Ch.nil ?_
    refine WP.cond rfl ?_ ?_
    · intro ht
      have ht' := of_decide_eq_true ht
      have hsub : ii + 64 - ii = 64 := by omega
      refine WP.skip ?_
      refine WP.seq ?_
      refine WP.block ?_
      refine WP.rg hG ?_
      refine Ch.pu gdN (by exact ⟨rfl, trivial⟩) (OpS.move) trivial rfl ?_
      refine Ch.pu gdN (by exact ⟨rfl, trivial⟩) (OpS.move) trivial rfl ?_
      refine Ch.pu gdN (by exact ⟨rfl, trivial⟩) (OpS.move) trivial rfl ?_
      refine Ch.pu gdN (by exact ⟨rfl, trivial⟩) (OpS.move) trivial rfl ?_
      refine Ch.pu gdN (by exact ⟨rfl, rfl, trivial⟩) (OpS.int rfl (by first | exact wr64 (by omega) | exact rfl)) trivial rfl ?_
      refine Ch.pu gdN (by exact ⟨rfl, rfl, rfl, trivial⟩) (OpS.sliceS rfl (by first | with_reducible exact Int.toNat_natCast _ | with_reducible exact tnLit _ _ | with_reducible exact tnLitA _ _ | with_reducible exact tnL _ | with_reducible exact tnA _ _ | with_reducible exact tnM _ _ | with_reducible exact tnMA _ _ _ | exact rfl) (by first | with_reducible exact Int.toNat_natCast _ | with_reducible exact tnLit _ _ | with_reducible exact tnLitA _ _ | with_reducible exact tnL _ | with_reducible exact tnA _ _ | with_reducible exact tnM _ _ | with_reducible exact tnMA _ _ _ | exact rfl) (by omega) (by omega) (by omega)) trivial rfl ?_
      refine Ch.callP (rblock_fc hk (eat m first X).text ((X.drop ii).take (ii + 64 - ii)) (St.text_length _) (by simp; omega)) gdN (by repeat (first | exact EvL.nil | (apply EvL.cons; exact rfl))) (by exact (And.intro (by first | exact .rfl _ | exact .untip _ _ _ | exact .nil | exact .func _ | exact AV.wk.sh (renL_s _ _) | exact AV.wk.sh (by simp; first | done | fail)) (And.intro (by first | exact .rfl _ | exact .untip _ _ _ | exact .nil | exact .func _ | exact AV.wk.sh (renL_s _ _) | exact AV.wk.sh (by simp; first | done | fail)) trivial))) (by rfl) rfl ?_
      refine Ch.pu gdN (by exact ⟨rfl, trivial⟩) (OpS.assign) trivial rfl ?_
      refine Ch.nil ?_
      refine WP.rg hG ?_
      refine Ch.pu gdN (by exact ⟨rfl, trivial⟩) (OpS.move) trivial rfl ?_
      refine Ch.pu gdN (by exact ⟨rfl, rfl, trivial⟩) (OpS.int rfl (by first | exact wr64 (by omega) | exact rfl)) trivial rfl ?_
      refine Ch.pu gdN (by exact ⟨rfl, trivial⟩) (OpS.assign) trivial rfl ?_
      refine Ch.nil ?_
      refine ⟨k - 1, _, by omega, (Ent.of [] ?_ ?_ ?_ ?_).se, m + 1, ii + 64, by omega, rfl⟩
      · exact (fun i hi => by rw [hnA] at hi; simp only [List.length_cons, List.length_nil] at hi ⊢; first | exact absurd hi (Nat.not_lt_zero _) | (revert i; decide))
      · (repeat (first | exact trivial | (refine And.intro ⟨(by first | trivial | (simp; first | done | fail) | exact ⟨trivial, hbel _⟩), _, rfl, (by first | exact .rfl _ | exact .nil | exact .of_eq (by simp [hc]; first | done | fail) | exact AV.wk.sh (by simp [hc]; first | done | fail) | exact .untip _ _ _)⟩ ?_)))
      · (repeat (first | exact trivial | (refine And.intro ⟨rfl, (by first | trivial | (simp; first | done | fail) | exact ⟨trivial, hbel _⟩), (by first | rfl | (simp [hc]; first | done | fail))⟩ ?_)))
      · simp [rn]
    · intro ht
      have ht' := of_decide_eq_false ht
      obtain rfl : m = q := by omega
      refine WP.exit ?_
      refine WP.rs hG ?_
      refine Ch.pu gdN (by exact ⟨rfl, trivial⟩) (OpS.move) trivial rfl ?_
      refine Ch.pu gdN (by exact ⟨rfl, trivial⟩) (OpS.assign) trivial rfl ?_
      refine Ch.nil ?_
      exact WP.ret (Ret.one rfl (.of_eq (by simp [hs])) trivial hnA)

theorem be4_nat (n : Nat) : [UInt8.ofNat (n / 2 ^ 24), UInt8.ofNat (n / 2 ^ 16), UInt8.ofNat (n / 2 ^ 8), UInt8.ofNat n] = be4 (UInt32.ofNat n) := by
  simp only [be4, List.cons.injEq, and_true]
  refine ⟨?_, ?_, ?_, ?_⟩ <;> (apply UInt8.toNat_inj.1; simp [shr32] <;> omega)
theorem rinput_fc {G : List (Nat × Array Value)} (d : UInt8) (ps : List (List UInt8)) (hL : (input d ps).length ≤ 140737488355328) :
    FC Tryd.prog G 81 [.v (.int .u8 (U8 d)), .sl none ps.length (ps.map sA)] [] (sA (input d ps)) [] := by
  refine FC.of_wp [4] Tryd.func81 rfl rfl rfl rfl (by first | trivial | (simp; first | done | fail) | exact ⟨trivial, hbel _⟩) (by first | trivial | (simp; first | done | fail) | exact ⟨trivial, hbel _⟩) (by exact Nat.le_of_ble_eq_true rfl) ?_
  intro A hG hnA hAB
  unfold start
  refine WP.rs hG ?_
  refine Ch.pu gdN (by exact ⟨rfl, trivial⟩) (OpS.assign) trivial rfl ?_
  refine Ch.nil ?_
  refine WP.rs hG ?_
  refine Ch.pu gdN (by exact ⟨rfl, trivial⟩) (OpS.move) trivial rfl ?_
  refine Ch.pup gdN (by repeat (first | exact EvP.nil | (apply EvP.cons; exact rfl))) (OpS.slice1 rfl rfl rfl rfl rfl rfl (by rfl) rfl (by rfl)) rfl ?_
  refine Ch.pu gdN (by exact ⟨rfl, trivial⟩) (OpS.b2s (l := [d]) rfl rfl rfl rfl) (by first | exact trivial | exact ⟨rfl, trivial⟩) rfl ?_
  refine Ch.pu gdN (by exact ⟨rfl, trivial⟩) (OpS.assign) trivial rfl ?_
  refine Ch.nil ?_
  refine WP.seq ?_
  have hmany := input_many d ps
  refine WP.rs hG ?_
  refine Ch.pu gdN (by exact ⟨rfl, trivial⟩) (OpS.assign) trivial rfl ?_
  refine Ch.nil ?_
  refine WP.block ?_
  refine WP.loop (fun k σ => ∃ m : Nat, m + k = ps.length ∧ σ = ⟨43, ls [(1, .sl none ps.length (ps.map sA)), (5, sA (input d (ps.take m))), (6, .v (.int .i64 (m : Int)))], lh [], blt 0⟩) (ps.length) (Ent.of [] ?_ ?_ ?_ ?_).se ⟨0, by omega, rfl⟩ ?_
  · exact (fun i hi => by rw [hnA] at hi; simp only [List.length_cons, List.length_nil] at hi ⊢; first | exact absurd hi (Nat.not_lt_zero _) | (revert i; decide))
  · (repeat (first | exact trivial | (refine And.intro ⟨(by first | trivial | (simp; first | done | fail) | exact ⟨trivial, hbel _⟩), _, rfl, (by first | exact .rfl _ | exact .nil | exact .of_eq (by simp; first | done | fail) | exact AV.wk.sh (by simp; first | done | fail) | exact .untip _ _ _)⟩ ?_)))
  · (repeat (first | exact trivial | (refine And.intro ⟨rfl, (by first | trivial | (simp; first | done | fail) | exact ⟨trivial, hbel _⟩), (by first | rfl | (simp; first | done | fail))⟩ ?_)))
  · simp [rn]
  · rintro k σ ⟨m, hm, rfl⟩
    refine WP.seq ?_
    refine WP.rs hG ?_
    refine Ch.pu gdN (by exact ⟨rfl, trivial⟩) (OpS.move) trivial rfl ?_
    refine Ch.pu gdN (by exact ⟨rfl, trivial⟩) (OpS.move) trivial rfl ?_
    refine Ch.pu gdN (by exact ⟨rfl, trivial⟩) (OpS.len rfl) (by first | exact trivial | exact ⟨rfl, trivial⟩) rfl ?_
    refine Ch.pu gdN (by exact ⟨rfl, rfl, trivial⟩) (OpS.int rfl (by first | exact wr64 (by omega) | exact rfl)) trivial rfl ?_
    refine Ch.nil ?_
    refine WP.cond rfl ?_ ?_
    · intro ht
      have ht' := of_decide_eq_true ht
      have hc : input d (ps.take (m + 1)) = input d (ps.take m) ++ be4 (UInt32.ofNat (el ps m).length) ++ el ps m := input_take d ps m (by omega)
      rw [← be4_nat] at hc
      have hle := input_le d ps (m + 1)
      have hlen : (input d (ps.take m)).length + 4 + (el ps m).length ≤ 140737488355328 := by
        rw [hc] at hle
        simp only [List.length_append, List.length_cons, List.length_nil] at hle
        omega
      refine WP.skip ?_
      refine WP.seq ?_
      refine WP.block ?_
      refine WP.rs hG ?_
      refine Ch.pu gdN (by exact ⟨rfl, trivial⟩) (OpS.move) trivial rfl ?_
      refine Ch.pu gdN (by exact ⟨rfl, trivial⟩) (OpS.move) trivial rfl ?_
      refine Ch.pu gdN (by exact ⟨rfl, rfl, trivial⟩) (OpS.indexM rfl rfl rfl (by first | with_reducible exact Int.toNat_natCast _ | with_reducible exact tnLit _ _ | with_reducible exact tnLitA _ _ | with_reducible exact tnL _ | with_reducible exact tnA _ _ | with_reducible exact tnM _ _ | with_reducible exact tnMA _ _ _ | exact rfl) (by omega) (by omega) (by first | rfl | (simp; done) | omega)) (by first | exact trivial | exact ⟨rfl, trivial⟩) rfl ?_
      refine Ch.pu gdN (by exact ⟨rfl, trivial⟩) (OpS.loadS rfl rfl) (by first | exact trivial | exact ⟨rfl, trivial⟩) rfl ?_
      refine Ch.pu gdN (by exact ⟨rfl, trivial⟩) (OpS.lenS rfl) (by first | exact trivial | exact ⟨rfl, trivial⟩) rfl ?_
      refine Ch.pu gdN (by exact ⟨rfl, trivial⟩) (OpS.assign) trivial rfl ?_
      refine Ch.nil ?_
      refine WP.rgD (by kernel_rfl) hG ?_
      refine Ch.pu gdN (by exact ⟨rfl, trivial⟩) (OpS.move) trivial rfl ?_
      refine Ch.pu gdN (by exact ⟨rfl, trivial⟩) (OpS.move) trivial rfl ?_
      refine Ch.pu gdN (by exact ⟨rfl, rfl, trivial⟩) (OpS.shrN (j := 24) rfl (by decide)) (by first | exact trivial | exact ⟨rfl, trivial⟩) rfl ?_
      refine Ch.pu gdN (by exact ⟨rfl, trivial⟩) (OpS.conv rfl rfl (by first | exact cv_u32_u8 _ | exact cv_u64_u8 _ | exact cv_i64_u8 _ | exact cv_u8_u32 _ | exact cv_u8_u64 _ | exact cv_u32_u64 _ | exact cv_u64_u32 _ | exact cv_u8_u8 _ | exact cv_u32_u32 _ | exact cv_u64_u64 _ | exact wr64 (by omega) | exact cv_u64_nat _ | exact cv_u32_nat _ | exact cv_u8_nat _ | exact rfl)) trivial rfl ?_
      refine Ch.pu gdN (by exact ⟨rfl, trivial⟩) (OpS.move) trivial rfl ?_
      refine Ch.pu gdN (by exact ⟨rfl, rfl, trivial⟩) (OpS.shrN (j := 16) rfl (by decide)) (by first | exact trivial | exact ⟨rfl, trivial⟩) rfl ?_
      refine Ch.pu gdN (by exact ⟨rfl, trivial⟩) (OpS.conv rfl rfl (by first | exact cv_u32_u8 _ | exact cv_u64_u8 _ | exact cv_i64_u8 _ | exact cv_u8_u32 _ | exact cv_u8_u64 _ | exact cv_u32_u64 _ | exact cv_u64_u32 _ | exact cv_u8_u8 _ | exact cv_u32_u32 _ | exact cv_u64_u64 _ | exact wr64 (by omega) | exact cv_u64_nat _ | exact cv_u32_nat _ | exact cv_u8_nat _ | exact rfl)) trivial rfl ?_
      refine Ch.pu gdN (by exact ⟨rfl, trivial⟩) (OpS.move) trivial rfl ?_
      refine Ch.pu gdN (by exact ⟨rfl, rfl, trivial⟩) (OpS.shrN (j := 8) rfl (by decide)) (by first | exact trivial | exact ⟨rfl, trivial⟩) rfl ?_
      refine Ch.pu gdN (by exact ⟨rfl, trivial⟩) (OpS.conv rfl rfl (by first | exact cv_u32_u8 _ | exact cv_u64_u8 _ | exact cv_i64_u8 _ | exact cv_u8_u32 _ | exact cv_u8_u64 _ | exact cv_u32_u64 _ | exact cv_u64_u32 _ | exact cv_u8_u8 _ | exact cv_u32_u32 _ | exact cv_u64_u64 _ | exact wr64 (by omega) | exact cv_u64_nat _ | exact cv_u32_nat _ | exact cv_u8_nat _ | exact rfl)) trivial rfl ?_
      refine Ch.pu gdN (by exact ⟨rfl, trivial⟩) (OpS.move) trivial rfl ?_
      refine Ch.pu gdN (by exact ⟨rfl, trivial⟩) (OpS.conv rfl rfl (by first | exact cv_u32_u8 _ | exact cv_u64_u8 _ | exact cv_i64_u8 _ | exact cv_u8_u32 _ | exact cv_u8_u64 _ | exact cv_u32_u64 _ | exact cv_u64_u32 _ | exact cv_u8_u8 _ | exact cv_u32_u32 _ | exact cv_u64_u64 _ | exact wr64 (by omega) | exact cv_u64_nat _ | exact cv_u32_nat _ | exact cv_u8_nat _ | exact rfl)) trivial rfl ?_
      refine Ch.pup gdN (by repeat (first | exact EvP.nil | (apply EvP.cons; exact rfl))) (OpS.slice1 rfl rfl rfl rfl rfl rfl (by rfl) rfl (by rfl)) rfl ?_
      refine Ch.pu gdN (by exact ⟨rfl, trivial⟩) (OpS.b2s (l := [UInt8.ofNat ((el ps m).length / 2 ^ 24), UInt8.ofNat ((el ps m).length / 2 ^ 16), UInt8.ofNat ((el ps m).length / 2 ^ 8), UInt8.ofNat (el ps m).length]) rfl rfl rfl rfl) (by first | exact trivial | exact ⟨rfl, trivial⟩) rfl ?_
      refine Ch.pu gdN (by exact ⟨rfl, rfl, trivial⟩) (OpS.strAdd (by simp; omega)) trivial rfl ?_
      refine Ch.pu gdN (by exact ⟨rfl, trivial⟩) (OpS.move) trivial rfl ?_
      refine Ch.pu gdN (by exact ⟨rfl, trivial⟩) (OpS.move) trivial rfl ?_
      refine Ch.pu gdN (by exact ⟨rfl, rfl, trivial⟩) (OpS.indexM rfl rfl rfl (by first | with_reducible exact Int.toNat_natCast _ | with_reducible exact tnLit _ _ | with_reducible exact tnLitA _ _ | with_reducible exact tnL _ | with_reducible exact tnA _ _ | with_reducible exact tnM _ _ | with_reducible exact tnMA _ _ _ | exact rfl) (by omega) (by omega) (by first | rfl | (simp; done) | omega)) (by first | exact trivial | exact ⟨rfl, trivial⟩) rfl ?_
      refine Ch.pu gdN (by exact ⟨rfl, trivial⟩) (OpS.loadS rfl rfl) (by first | exact trivial | exact ⟨rfl, trivial⟩) rfl ?_
      refine Ch.pu gdN (by exact ⟨rfl, rfl, trivial⟩) (OpS.strAdd (by simp; omega)) trivial rfl ?_
      refine Ch.pu gdN (by exact ⟨rfl, trivial⟩) (OpS.assign) trivial rfl ?_
      refine Ch.nilD ?_ (by kernel_rfl)
      refine WP.rg hG ?_
      refine Ch.pu gdN (by exact ⟨rfl, trivial⟩) (OpS.move) trivial rfl ?_
      refine Ch.pu gdN (by exact ⟨rfl, rfl, trivial⟩) (OpS.int rfl (by first | exact wr64 (by omega) | exact rfl)) trivial rfl ?_
      refine Ch.pu gdN (by exact ⟨rfl, trivial⟩) (OpS.assign) trivial rfl ?_
      refine Ch.nil ?_
      refine ⟨k - 1, _, by omega, (Ent.of [] ?_ ?_ ?_ ?_).se, m + 1, by omega, rfl⟩
      · exact (fun i hi => by rw [hnA] at hi; simp only [List.length_cons, List.length_nil] at hi ⊢; first | exact absurd hi (Nat.not_lt_zero _) | (revert i; decide))
      · (repeat (first | exact trivial | (refine And.intro ⟨(by first | trivial | (simp; first | done | fail) | exact ⟨trivial, hbel _⟩), _, rfl, (by first | exact .rfl _ | exact .nil | exact .of_eq (by simp [hc]; first | done | fail) | exact AV.wk.sh (by simp [hc]; first | done | fail) | exact .untip _ _ _)⟩ ?_)))
      · (repeat (first | exact trivial | (refine And.intro ⟨rfl, (by first | trivial | (simp; first | done | fail) | exact ⟨trivial, hbel _⟩), (by first | rfl | (simp [hc]; first | done | fail))⟩ ?_)))
      · simp [rn]
    · intro ht
      have ht' := of_decide_eq_false ht
      obtain rfl : m = ps.length := by omega
      refine WP.exit ?_
      refine WP.rs hG ?_
      refine Ch.pu gdN (by exact ⟨rfl, trivial⟩) (OpS.move) trivial rfl ?_
      refine Ch.pu gdN (by exact ⟨rfl, trivial⟩) (OpS.assign) trivial rfl ?_
      refine Ch.nil ?_
      exact WP.ret (Ret.one rfl (.of_eq (by simp)) trivial hnA)
theorem rtag_fc {G : List (Nat × Array Value)} (hk : (3, kArr) ∈ G) (hf : (2, first.cells) ∈ G) (d : UInt8) (ps : List (List UInt8)) (hL : (input d ps).length ≤ 140737488355328) :
    FC Tryd.prog G 57 [.v (.int .u8 (U8 d)), .sl none ps.length (ps.map sA)] [] (sA (tag d ps)) [] := by
  refine FC.of_wp [4] Tryd.func57 rfl rfl rfl rfl (by first | trivial | (simp; first | done | fail) | exact ⟨trivial, hbel _⟩) (by first | trivial | (simp; first | done | fail) | exact ⟨trivial, hbel _⟩) (by exact Nat.le_of_ble_eq_true rfl) ?_
  intro A hG hnA hAB
  unfold start
  refine WP.rs hG ?_
  refine Ch.pu gdN (by exact ⟨rfl, trivial⟩) (OpS.assign) trivial rfl ?_
  refine Ch.nil ?_
  refine WP.rs hG ?_
  refine Ch.pu gdN (by exact ⟨rfl, trivial⟩) (OpS.move) trivial rfl ?_
  refine Ch.pu gdN (by exact ⟨rfl, trivial⟩) (OpS.move) trivial rfl ?_
  refine Ch.callP (rinput_fc d ps hL) gdN (by repeat (first | exact EvL.nil | (apply EvL.cons; exact rfl))) (by exact (And.intro (by first | exact .rfl _ | exact .untip _ _ _ | exact .nil | exact .func _ | exact AV.wk.sh (renL_s _ _) | exact AV.wk.sh (by simp; first | done | fail)) (And.intro (by first | exact .rfl _ | exact .untip _ _ _ | exact .nil | exact .func _ | exact AV.wk.sh (renL_s _ _) | exact AV.wk.sh (by simp; first | done | fail)) trivial))) (by rfl) rfl ?_
  refine Ch.callP (rsum_fc hk hf (input d ps) (by omega)) gdN (by repeat (first | exact EvL.nil | (apply EvL.cons; exact rfl))) (by exact (And.intro (by first | exact .rfl _ | exact .untip _ _ _ | exact .nil | exact .func _ | exact AV.wk.sh (renL_s _ _) | exact AV.wk.sh (by simp; first | done | fail)) trivial)) (by rfl) rfl ?_
  refine Ch.pu gdN (by exact ⟨rfl, trivial⟩) (OpS.assign) trivial rfl ?_
  refine Ch.nil ?_
  refine WP.ret (Ret.one rfl (by first | exact .rfl _ | exact .nil | exact .of_eq (by simp; first | done | fail) | exact AV.wk.sh (by simp; first | done | fail) | exact .untip _ _ _) (by first | trivial | simp [AV.bel]) hnA)
end Go.Proofs.YtcojfnjpcpochaaDoor.E
end
section
/- More operations: parts of slices, calls by a value, larger and smaller, bits of whole numbers, rows made with room. -/
namespace Go.Proofs.YtcojfnjpcpochaaDoor.E
open Go Go.RowKit Go.Proofs.YtcojfnjpcpochaaDoor.V
/-- a part of a slice -/
theorem VRel.part {N : Nat → Nat → Prop} {ρ : Env} {w : World} {o : Option Nat} {n : Nat} {cs : List AV} {a : Option Addr} {n' cap : Nat} (h : VRel N ρ w (.sl o n cs) (.slice a n' cap)) {l m : Nat} (sz : Nat) (h1 : l ≤ m) (h2 : m ≤ n) :
    VRel N ρ w (.sl none (m - l) ((cs.drop (l * sz)).take ((m - l) * sz))) (sliced a l m cap sz) := by
  cases h with
  | sl o n cs a cap vals hc hcs ho hn hz hm =>
    unfold sliced
    by_cases hl : cap = l
    · have h0 : m - l = 0 := by omega
      rw [h0, Nat.zero_mul, List.take_zero]
      refine .sl _ _ _ _ _ vals (fun i hi => by cases hi) (fun i c hc' => by simp at hc') (fun k hk => by cases hk) (by omega) (fun _ => rfl) (by omega)
    · rw [if_neg hl]
      refine .sl _ _ _ _ _ (fun i => vals (l * sz + i)) (fun i hi => ?_) (fun i c hc' => ?_) (fun k hk => by cases hk) (by omega) (fun ha => ?_) (by omega)
      · have hi' : l * sz + i < cs.length := by simp at hi; omega
        obtain ⟨k1, b, off, rfl, k2, k3⟩ := hc _ hi'
        refine ⟨k1, b, off + l * sz, by simp [Addr.add_mid], ?_, ?_⟩
        · rw [Nat.add_assoc]; exact k2
        · rw [Nat.add_assoc]; exact k3
      · rw [List.getElem?_take] at hc'
        split at hc'
        · rw [List.getElem?_drop] at hc'
          exact hcs _ _ hc'
        · cases hc'
      · cases a with
        | none => have := hz rfl; omega
        | some a => cases ha
theorem VRel.isSl {N : Nat → Nat → Prop} {ρ : Env} {w : World} {o : Option Nat} {n : Nat} {cs : List AV} {x : Value} (h : VRel N ρ w (.sl o n cs) x) : ∃ a cap, x = .slice a n cap ∧ n ≤ cap := by
  cases h with
  | sl o n cs a cap vals hc hcs ho hn hz hm => exact ⟨a, cap, rfl, hn⟩
section
variable {P : Program} {G : List (Nat × Array Value)} {dst : Option Tmp} {ty : TypeId} {pos : String} {aft : Array Edge} {gd : Option (Nat × Bool)}
theorem run_sizeOf {e : TypeId} {inf : TypeInfo} (hi : P.info? e = some inf) (w : World) : (sizeOf e).run P w = .ok inf.size w := by
  simp [sizeOf, typeInfo, hi, Sem.run_bind, Sem.run_pure]
theorem elem_of {t e : TypeId} (hu : P.underlying t = some (.slice e)) : P.elem t = e := by
  simp [Program.elem, hu]
theorem OpS.slLH {t e : TypeId} {inf : TypeInfo} {x i j : Operand} {o : Option Nat} {n sz : Nat} {cs : List AV} {k k' : IntKind} {a b : Int} {l m : Nat} (hu : P.underlying t = some (.slice e)) (hi : P.info? e = some inf) (hz : inf.size = sz) (ha : a.toNat = l) (hb : b.toNat = m) (h0 : 0 ≤ a) (h1 : a ≤ b) (h2 : b ≤ (n : Int)) :
    OpS P G ⟨dst, .slice t x (some i) (some j) none, ty, pos, aft, gd⟩ [(x, .sl o n cs), (i, .v (.int k a)), (j, .v (.int k' b))] [] ⟨some (.sl none (m - l) ((cs.drop (l * sz)).take ((m - l) * sz))), [], []⟩ := by
  subst ha; subst hb; subst hz
  refine OpS.still fun A ρ σ a' w _ h _ hs => ?_
  have hx := hs.ev h.1
  obtain ⟨ad, cap, he, hc⟩ := hx.isSl
  rw [he] at hx
  refine ⟨sliced ad a.toNat b.toNat cap inf.size, ?_, hx.part inf.size (by omega) (by omega)⟩
  refine runv (s := Instr.sliceAt t (a'.eval x) (some (a'.eval i)) (some (a'.eval j)) none) ?_
  rw [he, (hs.ev h.2.1).raw, (hs.ev h.2.2.1).raw]
  have hu' : P.underlying t = some (.slice (P.elem t)) := by rw [elem_of hu]; exact hu
  rw [run_sliceAt_slice w t _ _ _ _ hu', run_slice_lh w t ad n cap hu' k k' a b h0 h1 (by omega), elem_of hu, run_sizeOf hi]
  rfl
theorem OpS.slL {t e : TypeId} {inf : TypeInfo} {x i : Operand} {o : Option Nat} {n sz : Nat} {cs : List AV} {k : IntKind} {a : Int} {l : Nat} (hu : P.underlying t = some (.slice e)) (hi : P.info? e = some inf) (hz : inf.size = sz) (ha : a.toNat = l) (h0 : 0 ≤ a) (h1 : a ≤ (n : Int)) :
    OpS P G ⟨dst, .slice t x (some i) none none, ty, pos, aft, gd⟩ [(x, .sl o n cs), (i, .v (.int k a))] [] ⟨some (.sl none (n - l) ((cs.drop (l * sz)).take ((n - l) * sz))), [], []⟩ := by
  subst ha; subst hz
  refine OpS.still fun A ρ σ a' w _ h _ hs => ?_
  have hx := hs.ev h.1
  obtain ⟨ad, cap, he, hc⟩ := hx.isSl
  rw [he] at hx
  refine ⟨sliced ad a.toNat n cap inf.size, ?_, hx.part inf.size (by omega) (by omega)⟩
  refine runv (s := Instr.sliceAt t (a'.eval x) (some (a'.eval i)) none none) ?_
  rw [he, (hs.ev h.2.1).raw]
  have hu' : P.underlying t = some (.slice (P.elem t)) := by rw [elem_of hu]; exact hu
  rw [run_sliceAt_slice w t _ _ _ _ hu', run_slice_l w t ad n cap hu' k a h0 h1, elem_of hu, run_sizeOf hi]
  rfl
theorem OpS.slH {t e : TypeId} {inf : TypeInfo} {x j : Operand} {o : Option Nat} {n sz : Nat} {cs : List AV} {k : IntKind} {b : Int} {m : Nat} (hu : P.underlying t = some (.slice e)) (hi : P.info? e = some inf) (hz : inf.size = sz) (hb : b.toNat = m) (h0 : 0 ≤ b) (h1 : b ≤ (n : Int)) :
    OpS P G ⟨dst, .slice t x none (some j) none, ty, pos, aft, gd⟩ [(x, .sl o n cs), (j, .v (.int k b))] [] ⟨some (.sl none m (cs.take (m * sz))), [], []⟩ := by
  subst hb; subst hz
  refine OpS.still fun A ρ σ a' w _ h _ hs => ?_
  have hx := hs.ev h.1
  obtain ⟨ad, cap, he, hc⟩ := hx.isSl
  rw [he] at hx
  refine ⟨sliced ad 0 b.toNat cap inf.size, ?_, ?_⟩
  · refine runv (s := Instr.sliceAt t (a'.eval x) none (some (a'.eval j)) none) ?_
    rw [he, (hs.ev h.2.1).raw]
    have hu' : P.underlying t = some (.slice (P.elem t)) := by rw [elem_of hu]; exact hu
    rw [run_sliceAt_slice w t _ _ _ _ hu', run_slice_h w t ad n cap hu' k b h0 (by omega), elem_of hu, run_sizeOf hi]
    rfl
  · have := hx.part (l := 0) (m := b.toNat) inf.size (by omega) (by omega)
    simpa using this
/-- the same, of elements of one cell -/
theorem OpS.slLH1 {α : Type} {t e : TypeId} {inf : TypeInfo} {x i j : Operand} {o : Option Nat} {n : Nat} {f : α → AV} {cs : List α} {k k' : IntKind} {a b : Int} {l m : Nat} (hu : P.underlying t = some (.slice e)) (hi : P.info? e = some inf) (hz : inf.size = 1) (ha : a.toNat = l) (hb : b.toNat = m) (h0 : 0 ≤ a) (h1 : a ≤ b) (h2 : b ≤ (n : Int)) :
    OpS P G ⟨dst, .slice t x (some i) (some j) none, ty, pos, aft, gd⟩ [(x, .sl o n (cs.map f)), (i, .v (.int k a)), (j, .v (.int k' b))] [] ⟨some (.sl none (m - l) (((cs.drop l).take (m - l)).map f)), [], []⟩ := by
  have := OpS.slLH (P := P) (G := G) (dst := dst) (ty := ty) (pos := pos) (aft := aft) (gd := gd) (t := t) (x := x) (i := i) (j := j) (o := o) (n := n) (cs := cs.map f) (k := k) (k' := k') hu hi hz ha hb h0 h1 h2
  simpa [List.map_drop, List.map_take] using this
theorem OpS.slL1 {α : Type} {t e : TypeId} {inf : TypeInfo} {x i : Operand} {o : Option Nat} {n : Nat} {f : α → AV} {cs : List α} {k : IntKind} {a : Int} {l : Nat} (hu : P.underlying t = some (.slice e)) (hi : P.info? e = some inf) (hz : inf.size = 1) (ha : a.toNat = l) (h0 : 0 ≤ a) (h1 : a ≤ (n : Int)) (hl : cs.length = n) :
    OpS P G ⟨dst, .slice t x (some i) none none, ty, pos, aft, gd⟩ [(x, .sl o n (cs.map f)), (i, .v (.int k a))] [] ⟨some (.sl none (n - l) ((cs.drop l).map f)), [], []⟩ := by
  have := OpS.slL (P := P) (G := G) (dst := dst) (ty := ty) (pos := pos) (aft := aft) (gd := gd) (t := t) (x := x) (i := i) (o := o) (n := n) (cs := cs.map f) (k := k) hu hi hz ha h0 h1
  have e : (((cs.map f).drop (l * 1)).take ((n - l) * 1)) = (cs.drop l).map f := by
    rw [Nat.mul_one, Nat.mul_one, List.take_of_length_le (by simp; omega), List.map_drop]
  rwa [e] at this
theorem OpS.slH1 {α : Type} {t e : TypeId} {inf : TypeInfo} {x j : Operand} {o : Option Nat} {n : Nat} {f : α → AV} {cs : List α} {k : IntKind} {b : Int} {m : Nat} (hu : P.underlying t = some (.slice e)) (hi : P.info? e = some inf) (hz : inf.size = 1) (hb : b.toNat = m) (h0 : 0 ≤ b) (h1 : b ≤ (n : Int)) :
    OpS P G ⟨dst, .slice t x none (some j) none, ty, pos, aft, gd⟩ [(x, .sl o n (cs.map f)), (j, .v (.int k b))] [] ⟨some (.sl none m ((cs.take m).map f)), [], []⟩ := by
  have := OpS.slH (P := P) (G := G) (dst := dst) (ty := ty) (pos := pos) (aft := aft) (gd := gd) (t := t) (x := x) (j := j) (o := o) (n := n) (cs := cs.map f) (k := k) hu hi hz hb h0 h1
  simpa [List.map_take] using this
theorem natb_eq (a b : Nat) : Value.bool (((a : Int)) == ((b : Nat) : Int)) = Value.bool (decide (a = b)) := by
  congr 1
  rw [Bool.eq_iff_iff]
  simp
  omega
theorem OpS.maxI {x y : Operand} {ats : Array TypeId} {k k' : IntKind} {a b c : Int} (hc : (if b > a then b else a) = c) :
    OpS P G ⟨dst, .call ⟨.builtin .max, #[x, y], ats⟩, ty, pos, aft, gd⟩ [(x, .v (.int k a)), (y, .v (.int k' b))] [] ⟨some (.v (.int k c)), [], []⟩ := by
  subst hc
  refine OpS.still fun A ρ σ a' w _ h _ hs => ⟨_, ?_, .v _⟩
  obtain ⟨cs, he⟩ := exec_b2 a'.eval .max x y ats (dst := dst) (ty := ty) (pos := pos) (aft := aft) (gd := gd)
  rw [he]
  refine runv (s := Builtin.max_ ats ty #[a'.eval x, a'.eval y]) ?_
  rw [(hs.ev h.1).raw, (hs.ev h.2.1).raw]
  exact run_max_int2 w ats ty k k' a b
theorem OpS.minI {x y : Operand} {ats : Array TypeId} {k k' : IntKind} {a b c : Int} (hc : (if b < a then b else a) = c) :
    OpS P G ⟨dst, .call ⟨.builtin .min, #[x, y], ats⟩, ty, pos, aft, gd⟩ [(x, .v (.int k a)), (y, .v (.int k' b))] [] ⟨some (.v (.int k c)), [], []⟩ := by
  subst hc
  refine OpS.still fun A ρ σ a' w _ h _ hs => ⟨_, ?_, .v _⟩
  obtain ⟨cs, he⟩ := exec_b2 a'.eval .min x y ats (dst := dst) (ty := ty) (pos := pos) (aft := aft) (gd := gd)
  rw [he]
  refine runv (s := Builtin.min_ ats ty #[a'.eval x, a'.eval y]) ?_
  rw [(hs.ev h.1).raw, (hs.ev h.2.1).raw]
  exact run_min_int2 w ats ty k k' a b
theorem bits_nat (f : Nat → Nat → Nat) (g : BitVec 64 → BitVec 64 → BitVec 64) (hg : ∀ x y, (g x y).toNat = f x.toNat y.toNat) (hf : ∀ a b : Nat, a < 2 ^ 63 → b < 2 ^ 63 → f a b < 2 ^ 63) (a b : Nat) (ha : a < 2 ^ 63) (hb : b < 2 ^ 63) :
    IntKind.i64.wrap ((g (BitVec.ofInt 64 (a : Int)) (BitVec.ofInt 64 (b : Int))).toNat : Int) = ((f a b : Nat) : Int) := by
  have e : ∀ n : Nat, n < 2 ^ 63 → (BitVec.ofInt 64 (n : Int)).toNat = n := fun n hn => by
    rw [BitVec.toNat_ofInt]
    omega
  rw [hg, e a ha, e b hb]
  have := wr64 (n := ((f a b : Nat) : Int)) (by have := hf a b ha hb; omega)
  injection this
theorem OpS.xorN {t t' : TypeId} {x y : Operand} {a b : Nat} (ha : a < 2 ^ 63) (hb : b < 2 ^ 63) :
    OpS P G ⟨dst, .binOp .xor t x y t', ty, pos, aft, gd⟩ [(x, .v (.int .i64 (a : Int))), (y, .v (.int .i64 (b : Int)))] [] ⟨some (.v (.int .i64 ((a ^^^ b : Nat) : Int))), [], []⟩ :=
  OpS.binR rfl fun w => by
    show (Op.intBits .xor .i64 (a : Int) (b : Int)).run P w = _
    unfold Op.intBits
    show Result.ok (Value.int .i64 (IntKind.i64.wrap ((BitVec.ofInt 64 (a : Int) ^^^ BitVec.ofInt 64 (b : Int)).toNat : Int))) w = _
    rw [bits_nat (· ^^^ ·) (· ^^^ ·) (fun x y => BitVec.toNat_xor x y) (fun a b ha hb => Nat.xor_lt_two_pow ha hb) a b ha hb]
theorem OpS.andN {t t' : TypeId} {x y : Operand} {a b : Nat} (ha : a < 2 ^ 63) (hb : b < 2 ^ 63) :
    OpS P G ⟨dst, .binOp .and t x y t', ty, pos, aft, gd⟩ [(x, .v (.int .i64 (a : Int))), (y, .v (.int .i64 (b : Int)))] [] ⟨some (.v (.int .i64 ((a &&& b : Nat) : Int))), [], []⟩ :=
  OpS.binR rfl fun w => by
    show (Op.intBits .and .i64 (a : Int) (b : Int)).run P w = _
    unfold Op.intBits
    show Result.ok (Value.int .i64 (IntKind.i64.wrap ((BitVec.ofInt 64 (a : Int) &&& BitVec.ofInt 64 (b : Int)).toNat : Int))) w = _
    rw [bits_nat (· &&& ·) (· &&& ·) (fun x y => BitVec.toNat_and x y) (fun a b ha hb => Nat.and_lt_two_pow a hb) a b ha hb]
theorem OpS.strEqB {t t' : TypeId} {x y : Operand} {a b : List UInt8} {c : Bool} (h : decide (a = b) = c) :
    OpS P G ⟨dst, .binOp .eql t x y t', ty, pos, aft, gd⟩ [(x, .v (.string (B a))), (y, .v (.string (B b)))] [] ⟨some (.v (.bool c)), [], []⟩ := by
  subst h
  exact OpS.strEql
theorem OpS.strNeB {t t' : TypeId} {x y : Operand} {a b : List UInt8} {c : Bool} (h : (!decide (a = b)) = c) :
    OpS P G ⟨dst, .binOp .neq t x y t', ty, pos, aft, gd⟩ [(x, .v (.string (B a))), (y, .v (.string (B b)))] [] ⟨some (.v (.bool c)), [], []⟩ := by
  subst h
  exact OpS.strNeq
theorem OpS.negI {t : TypeId} {x : Operand} {a b : Int} (hb : b = -a) (h : -9223372036854775808 ≤ b ∧ b < 9223372036854775808) :
    OpS P G ⟨dst, .unOp .neg t x, ty, pos, aft, gd⟩ [(x, .v (.int .i64 a))] [] ⟨some (.v (.int .i64 b)), [], []⟩ :=
  OpS.unR fun w => by
    subst hb
    have e : (-a) = 0 - a := by omega
    show Result.ok (Value.int .i64 (IntKind.i64.wrap (0 - a))) w = _
    rw [e] at h ⊢
    rw [wr64 h]
/-- make: nothing yet, with room -/
theorem OpS.makeTip {t E : TypeId} {inf : TypeInfo} {z : Value} {x y : Operand} {k k' : IntKind} {m c : Int} {n sz bb : Nat} (id : Nat) (hu : P.underlying t = some (.slice E)) (hi : P.info? E = some inf) (hz : inf.zero = some z) (hsz : inf.size = sz) (hm : m = 0) (hc : c = (n : Int))
    (hbb : inf.bytes = bb) (hb : n * bb ≤ 281474976710656) (hn : n ≤ maxLen) :
    OpS P G ⟨dst, .makeSlice t x y, ty, pos, aft, gd⟩ [(x, .v (.int k m)), (y, .v (.int k' c))] [] ⟨some (.sl (some id) 0 []), [(id, some (.tip E sz 0))], [id]⟩ := by
  subst hm; subst hc; subst hsz; subst hbb
  refine OpS.act fun A ρ σ a w _ h hp hnu hs => ?_
  have hn' : ((n : Int)) ≤ 9223372036854775807 := by unfold maxLen at hn; omega
  have hb' : (inf.bytes : Int) * (n : Int) ≤ 281474976710656 := by
    have h : ((n * inf.bytes : Nat) : Int) ≤ 281474976710656 := by omega
    rw [Int.mul_comm]
    rwa [Int.natCast_mul] at h
  have hr := run_make (P := P) w t E inf z hu hi hz k k' 0 (n : Int) (by omega) (by omega) hb' hn'
  simp only [Int.toNat_natCast] at hr
  let ρ' : Env := ⟨ρ.blk, upd ρ.tip id (some (.slice (some ⟨w.heap.size, 0, none⟩) 0 n))⟩
  have hid : ρ'.tip id = some (.slice (some ⟨w.heap.size, 0, none⟩) 0 n) := upd_same _ _ _
  obtain ⟨m1, m2⟩ := hs.mem.extend (ρ' := ρ') (ob := .tip E inf.size 0) (w' := w.alloc (.cells (madeCells z.cells (n * inf.size)) E)) hnu.1 (fun i hi => ⟨rfl, upd_ne _ _ hi⟩) rfl rfl rfl (by simp) (fun k hk => Below.heap_alloc w _ k hk)
    (fun b ⟨cap, hb⟩ => by rw [hid] at hb; cases hb; exact Nat.le_refl _) (fun _ => .inr ⟨w.heap.size, n, _, hid, heap_alloc_new w _, Nat.zero_le _, hn, by simp [madeCells]⟩)
  refine ⟨_, _, ρ', .inl ?_, m1, m2, fun v hv => by
    cases hv
    exact .sl _ _ _ _ n (fun _ => undef) (fun i hi => by cases hi) (fun i c hc => by simp at hc) (fun k hk => by cases hk; exact hid) (Nat.zero_le _) (fun h => by cases h) hn⟩
  refine runv (s := Instr.makeSlice t (a.eval x) (a.eval y)) ?_
  rw [(hs.ev h.1).raw, (hs.ev h.2.1).raw]
  exact hr
/-- make: a row of noughts that nobody writes -/
theorem OpS.makeS {t E : TypeId} {inf : TypeInfo} {z : Value} {x y : Operand} {k k' : IntKind} {m : Int} {n bb : Nat} {cs : List AV} (hu : P.underlying t = some (.slice E)) (hi : P.info? E = some inf) (hz : inf.zero = some z) (hsz : inf.size = 1) (hzc : z.cells = #[z]) (h1 : z.oneCell' = true) (hm : m = (n : Int))
    (hcs : List.replicate n (.v z) = cs) (hbb : inf.bytes = bb) (hb : n * bb ≤ 281474976710656) (hn : n ≤ maxLen) :
    OpS P G ⟨dst, .makeSlice t x y, ty, pos, aft, gd⟩ [(x, .v (.int k m)), (y, .v (.int k' m))] [] ⟨some (.sl none n cs), [], []⟩ := by
  subst hm; subst hcs; subst hbb
  refine OpS.act fun A ρ σ a w _ h hp hu' hs => ?_
  have hl : (madeCells z.cells (n * inf.size)).toList = List.replicate n z := by rw [hzc, hsz, Nat.mul_one, madeCells_one]
  obtain ⟨k1, k2, k3⟩ := new_slice (w' := w.alloc (.cells (madeCells z.cells (n * inf.size)) E)) (T := E) (fz := (0, 0)) (cs := List.replicate n (.v z)) (n := n) (cap := n) hs.mem rfl rfl rfl (by simp) (fun k hk => Below.heap_alloc w _ k hk) (heap_alloc_new w _)
    (by rw [List.length_replicate, ← Array.length_toList, hl, List.length_replicate]; exact Nat.le_refl _) (Nat.le_refl _) hn (fun j c v hc hv => by
    rw [← Array.getElem?_toList, hl] at hv
    rw [List.getElem?_replicate] at hc hv
    split at hc
    · rw [if_pos ‹_›] at hv
      cases hc; cases hv
      exact ⟨.v _, h1⟩
    · cases hc)
  have hn' : ((n : Int)) ≤ 9223372036854775807 := by unfold maxLen at hn; omega
  have hb' : (inf.bytes : Int) * (n : Int) ≤ 281474976710656 := by
    have h : ((n * inf.bytes : Nat) : Int) ≤ 281474976710656 := by omega
    rw [Int.mul_comm]
    rwa [Int.natCast_mul] at h
  have hr := run_make (P := P) w t E inf z hu hi hz k k' (n : Int) (n : Int) (by omega) (Int.le_refl _) hb' hn'
  simp only [Int.toNat_natCast] at hr
  refine ⟨_, _, ρ, .inl ?_, k1, k2, fun v hv => by cases hv; exact k3⟩
  refine runv (s := Instr.makeSlice t (a.eval x) (a.eval y)) ?_
  rw [(hs.ev h.1).raw, (hs.ev h.2.1).raw]
  exact hr
/-- append, onto nothing -/
theorem OpS.appendN {E t tx : TypeId} {inf : TypeInfo} {z : Value} {s x : Operand} {m sz bb : Nat} {ds : List AV} {y : AV} (c c' : Nat) (hcc : (Nat.beq c' c) = false) (ht : P.underlying t = some (.slice E)) (hi : P.info? E = some inf) (hz : inf.zero = some z) (hsz : inf.size = sz) (hzs : z.cells.size = sz) (h0 : 0 < sz)
    (hs : SrcA P sz tx y m ds) (hdl : ds.length = m * sz) (hmax : m ≤ maxLen) (hbb : inf.bytes = bb) (hb : m * bb ≤ 140737488355328) :
    OpS P G ⟨dst, .call ⟨.builtin .append, #[s, x], #[t, tx]⟩, ty, pos, aft, gd⟩ [(s, .v (.slice none 0 0)), (x, y)] [] ⟨some (.sl (some c') m ds), [(c, none), (c', some (.tip E sz m))], [c, c']⟩ := by
  subst hbb
  have hcc' : c' ≠ c := fun e => by subst e; simp at hcc
  refine OpS.act fun A ρ σ a w _ h hp hu hst => ?_
  obtain ⟨news, hsrc, hds⟩ := hs _ _ _ _ (hst.ev h.2.1)
  let ρ1 : Env := ⟨ρ.blk, upd ρ.tip c (some (.slice none 0 0))⟩
  have hid : ρ1.tip c = some (.slice none 0 0) := upd_same _ _ _
  obtain ⟨m1, m2⟩ := hst.mem.extend (ρ' := ρ1) (ob := .tip E sz 0) (w' := w) hu.1 (fun i hi => ⟨rfl, upd_ne _ _ hi⟩) rfl rfl rfl (Nat.le_refl _) (fun k hk => rfl) (fun b ⟨cap, hb⟩ => by rw [hid] at hb; cases hb) (fun _ => .inl ⟨hid, rfl⟩)
  have hv : VRel (Nh A (upd σ.h c (some (.tip E sz 0))) ρ1 w) ρ1 w (.sl (some c) 0 []) (.slice none 0 0) :=
    .sl _ _ _ _ _ (fun _ => undef) (fun i hi => by cases hi) (fun i c hc => by simp at hc) (fun k hk => by cases hk; exact hid) (Nat.le_refl _) (fun _ => rfl) (by unfold maxLen; omega)
  have hxs : w.ownsRow 0 E sz (.slice none 0 0) 0 [] := World.ownsRow_nil w 0 _ sz
  obtain ⟨v', w', hr, hown, hg⟩ := run_append_two (P := P) w t tx ty E inf z sz ht hi hz hsz hzs h0 _ 0 [] hxs _ m news hsrc (by omega) (by simpa using hb)
  obtain ⟨ρ', k1, k2, k3⟩ := append_tip (σ := ⟨σ.n, σ.s, upd σ.h c (some (.tip E sz 0)), nuU σ.u [c]⟩) (c := c) (c' := c') (ds := ds) m1 (upd_same _ _ _) (by show nuU σ.u [c] c' = false; rw [nuU_eq, hu.2.1]; simp [hcc']) hv (by simp) hxs hown hsrc.newsLen hdl
    (fun j d x hj hx => ⟨m2 _ _ (hds j d x hj hx), hsrc.one x (List.mem_of_getElem? hx)⟩) (by omega) hg
  have eh : upd (upd (upd σ.h c (some (AO.tip E sz 0))) c none) c' (some (.tip E sz (0 + m))) = chs σ.h [(c, none), (c', some (.tip E sz m))] := by
    rw [Nat.zero_add]
    show _ = upd (upd σ.h c none) c' _
    congr 1
    funext i
    by_cases hi : i = c
    · subst hi; rw [upd_same, upd_same]
    · rw [upd_ne _ _ hi, upd_ne _ _ hi, upd_ne _ _ hi]
  have eu : nuU (nuU σ.u [c]) [c'] = nuU σ.u [c, c'] := by
    funext i
    rw [nuU_eq, nuU_eq, nuU_eq]
    simp [Bool.or_assoc]
  rw [show ([] ++ ds : List AV) = ds from rfl] at k3
  change HSat A ρ' (upd (upd (upd σ.h c (some (AO.tip E sz 0))) c none) c' (some (.tip E sz (0 + m)))) (nuU (nuU σ.u [c]) [c']) w' at k1
  change ∀ av y, VRel (Nh A (upd σ.h c (some (.tip E sz 0))) ρ1 w) ρ1 w av y → VRel (Nh A (upd (upd (upd σ.h c (some (AO.tip E sz 0))) c none) c' (some (.tip E sz (0 + m)))) ρ' w') ρ' w' av y at k2
  change VRel (Nh A (upd (upd (upd σ.h c (some (AO.tip E sz 0))) c none) c' (some (.tip E sz (0 + m)))) ρ' w') ρ' w' _ _ at k3
  rw [eh] at k1 k2 k3
  rw [eu] at k1
  rw [Nat.zero_add] at k3
  obtain ⟨css, he⟩ := exec_b2 a.eval .append s x #[t, tx] (dst := dst) (ty := ty) (pos := pos) (aft := aft) (gd := gd)
  refine ⟨v', w', ρ', .inl ?_, k1, fun av y hy => k2 _ _ (m2 _ _ hy), fun v hv' => by cases hv'; exact k3⟩
  rw [he]
  refine runv (s := Builtin.append_ #[t, tx] ty #[a.eval s, a.eval x]) ?_
  rw [(hst.ev h.1).raw]
  exact hr
/-- a call by a value -/
theorem OpS.callD {f : FuncId} {args : List AV} {H H' : List (Option AO)} {res : AV} (F : FC P G f args H res H') (old : List Nat) (base : Nat) (hol : old.length = H.length) (hnd : old.Nodup) (hlt : ∀ x ∈ old, x < base)
    {c : Operand} {xs : List Operand} {ys : List AV} (ho : xs.length = ys.length) (hwk : WkL ys (args.map (AV.ren (pi old base)))) {ats : Array TypeId} :
    OpS P G ⟨dst, .call ⟨.value c, xs.toArray, ats⟩, ty, pos, aft, gd⟩ ((c :: xs).zip (.v (.func (.func f) #[] #[]) :: ys)) (hpl (pi old base) old H) (callEff old base res H.length H') := by
  constructor
  intro A ρ σ a w K Q hG h1 h2 h3 hd hs hK
  obtain ⟨fn, cd, hf, hname, hb⟩ := F.enter
  have hcv : a.eval c = .func (.func f) #[] #[] := (hs.ev h1.1).raw
  have hrun : (execOp a.eval ⟨dst, .call ⟨.value c, xs.toArray, ats⟩, ty, pos, aft, gd⟩).run P w = .ok (.enter f (xs.map a.eval).toArray) w := by
    have := run_enter hf hname hb (xs.map a.eval).toArray w
    show (do let d ← Deferred.ofValue (a.eval c) (xs.toArray.map a.eval); invoke d.target d.args : Sem Next).run P w = _
    rw [hcv]
    show (callFunc f (#[] ++ xs.toArray.map a.eval ++ #[])).run P w = _
    simpa using this
  unfold Oper.wp
  rw [hrun, Oper.upon_enter]
  refine (call_sat F hol hnd hlt hG hs h2 h3 hd (vs := (xs.map a.eval).toArray) (ys := ys) (by simp [ho]) ?_ hwk).mono ?_
  · intro i y x hy hx
    rw [List.getElem?_toArray, List.getElem?_map] at hx
    cases hxi : xs[i]? with
    | none => rw [hxi] at hx; cases hx
    | some o => rw [hxi] at hx; cases hx; exact ev_ops hs h1.2 i o y hxi hy
  · rintro e w' ⟨v, ρ', rfl, hs'⟩
    exact hK _ _ ρ' hs'
end
section
variable {P : Program} {G : List (Nat × Array Value)} {l r : List Oper} {K : AS → Prop} {n : Nat} {s : Nat → Option AV} {h : Nat → Option AO} {u : Nat → Bool} {d : Tmp} {ty : TypeId} {pos : String} {aft : Array Edge} {gd : Option (Nat × Bool)} {D : Bool} {acc : List St}
/-- a call of a function that yields a slice -/
theorem Ch.callS {f : FuncId} {args : List AV} {m : Nat} {cs : List AV} (F : FC P G f args [] (.sl none m cs) []) {xs : List Operand} {ys : List AV} {ats : Array TypeId}
    (hg : GdOk l.toArray ⟨some d, .call ⟨.value (.func f), xs.toArray, ats⟩, ty, pos, aft, gd⟩ ⟨n, s, h, u⟩ true) (hev : EvL ⟨n, s, h, u⟩ xs ys) (hwk : WkL ys (args.map (AV.ren (pi [] 0)))) (hc : AV.renL (pi [] 0) cs = cs) (hd : Nat.blt d n = true)
    (hr : Ch P G l D K (⟨true, xs.zip ys, [], ⟨some (.sl none m cs), [], []⟩⟩ :: acc) r ⟨n, upd s d (some (.sl none m cs)), h, u⟩) :
    Ch P G l D K acc (⟨some d, .call ⟨.value (.func f), xs.toArray, ats⟩, ty, pos, aft, gd⟩ :: r) ⟨n, s, h, u⟩ :=
  Ch.callP F hg hev hwk (res' := .sl none m cs) (by simp [AV.ren, hc]) hd hr
/-- a call by a value, of a function that only computes -/
theorem Ch.callD {f : FuncId} {args : List AV} {res : AV} (F : FC P G f args [] res []) {c : Operand} {xs : List Operand} {ys : List AV} {ats : Array TypeId}
    (hg : GdOk l.toArray ⟨some d, .call ⟨.value c, xs.toArray, ats⟩, ty, pos, aft, gd⟩ ⟨n, s, h, u⟩ true) (hev : EvL ⟨n, s, h, u⟩ (c :: xs) (.v (.func (.func f) #[] #[]) :: ys)) (hwk : WkL ys (args.map (AV.ren (pi [] 0)))) {res' : AV} (hres : res.ren (pi [] 0) = res') (hd : Nat.blt d n = true)
    (hr : Ch P G l D K (⟨true, (c :: xs).zip (.v (.func (.func f) #[] #[]) :: ys), [], ⟨some res', [], []⟩⟩ :: acc) r ⟨n, upd s d (some res'), h, u⟩) :
    Ch P G l D K acc (⟨some d, .call ⟨.value c, xs.toArray, ats⟩, ty, pos, aft, gd⟩ :: r) ⟨n, s, h, u⟩ := by
  subst hres
  have hlen : xs.length = ys.length := by have := hev.ok.2; simpa using this
  exact Ch.cons (st := ⟨true, (c :: xs).zip (.v (.func (.func f) #[] #[]) :: ys), [], ⟨some (res.ren (pi [] 0)), [], []⟩⟩) ⟨hg, fun _ => ⟨OpS.callD F [] 0 rfl (by simp) (by simp) hlen hwk, hev.ok.1, trivial, trivial, fun t ht => by cases ht; exact Nat.blt_eq.mp hd⟩, fun h => nomatch h⟩ hr
end
theorem belL_append (u : Nat → Bool) : ∀ a b : List AV, AV.belL u (a ++ b) ↔ AV.belL u a ∧ AV.belL u b
  | [], b => by simp [AV.belL]
  | x :: a, b => by
    show AV.bel u x ∧ AV.belL u (a ++ b) ↔ (AV.bel u x ∧ AV.belL u a) ∧ AV.belL u b
    rw [belL_append u a b, and_assoc]
attribute [simp] belL_append
/-- ways that meet -/
theorem WP.seqJ {P : Program} {A : Amb} {Q : Exit → AS → Prop} {σ : AS} {x y : Code} (J : AS → Prop) (h1 : WP P A x (thn (fun σ => ∃ σ', SEnt A σ σ' ∧ J σ') Q) σ) (h2 : ∀ σ, J σ → WP P A y Q σ) : WP P A (.seq x y) Q σ :=
  WP.seq (h1.mono fun e σ' h => by
    cases e with
    | normal => obtain ⟨σ2, hs, hj⟩ := h; exact WP.from hs (h2 σ2 hj)
    | _ => exact h)
/-- two values go back -/
theorem Ret.two {A : Amb} {n : Nat} {s : Nat → Option AV} {h : Nat → Option AO} {u : Nat → Bool} {t1 t2 : Tmp} {v1 v2 r1 r2 : AV} (h1 : s t1 = some v1) (h2 : s t2 = some v2) (k1 : v1.wk (r1.ren (rn []))) (k2 : v2.wk (r2.ren (rn []))) (b1 : r1.bel (blt 0)) (b2 : r2.bel (blt 0))
    (hne : (Nat.beq t2 t1) = false) (hA : A.nA = 0) : Ret A [t1, t2] (.tup [r1, r2]) [] .ret ⟨n, s, h, u⟩ :=
  (Ret.of (rs := [t1, t2]) (vs := [r1, r2]) (H' := []) (res := .tup [r1, r2]) [] (fun i hi => by rw [hA] at hi; omega) ⟨⟨b1, v1, h1, k1⟩, ⟨b2, v2, h2, k2⟩, trivial⟩ rfl trivial (by simp)
    (show RetV [t1, t2] (.tup [r1, r2]) _ from ⟨[r1, r2], rfl, rfl, by simp [ls, TsOk, List.zip, List.zipWith, hne]⟩)).1
end Go.Proofs.YtcojfnjpcpochaaDoor.E
end
section
/- A text of parts tells its parts; noughts behind a text. No program in sight. -/
namespace Go.Proofs.YtcojfnjpcpochaaDoor.V

theorem be4_inj {x y : UInt32} (h : be4 x = be4 y) : x = y := by
  have h1 := word_be4 x []
  rw [h, word_be4] at h1
  exact h1.symm
/-- unlike domains or parts give unlike texts -/
theorem flat_inj : ∀ (a b : List (List UInt8)), (∀ p ∈ a, p.length < 4294967296) → (∀ p ∈ b, p.length < 4294967296) →
    (a.flatMap fun p => be4 (UInt32.ofNat p.length) ++ p) = (b.flatMap fun p => be4 (UInt32.ofNat p.length) ++ p) → a = b
  | [], [], _, _, _ => rfl
  | [], q :: b, _, _, h => by
    have := congrArg List.length h
    simp [be4_length] at this <;> omega
  | p :: a, [], _, _, h => by
    have := congrArg List.length h
    simp [be4_length] at this <;> omega
  | p :: a, q :: b, ha, hb, h => by
    simp only [List.flatMap_cons, List.append_assoc] at h
    obtain ⟨h1, h2⟩ := List.append_inj h rfl
    have h3 := congrArg UInt32.toNat (be4_inj h1)
    have hp := ha p (by simp)
    have hq := hb q (by simp)
    simp only [UInt32.toNat_ofNat'] at h3
    have hl : p.length = q.length := by omega
    obtain ⟨h4, h5⟩ := List.append_inj h2 hl
    rw [h4, flat_inj a b (fun x hx => ha x (by simp [hx])) (fun x hx => hb x (by simp [hx])) h5]
theorem input_inj {d e : UInt8} {a b : List (List UInt8)} (ha : ∀ p ∈ a, p.length < 4294967296) (hb : ∀ p ∈ b, p.length < 4294967296) : input d a = input e b ↔ d = e ∧ a = b := by
  constructor
  · intro h
    simp only [input, List.cons.injEq] at h
    exact ⟨h.1, flat_inj a b ha hb h.2⟩
  · rintro ⟨rfl, rfl⟩
    rfl
theorem sum_length (l : List UInt8) : (sum l).length = 32 := St.text_length _
theorem tag_length (d : UInt8) (ps : List (List UInt8)) : (tag d ps).length = 32 := St.text_length _
/-- a text, cut or filled with noughts to a length -/
def fit (n : Nat) (l : List UInt8) : List UInt8 := l.take n ++ List.replicate (n - (l.take n).length) 0
theorem fit_length (n : Nat) (l : List UInt8) : (fit n l).length = n := by simp [fit]; omega
/-- two unlike texts of a list have one sum -/
def Coll (L : List (List UInt8)) : Prop := ∃ x ∈ L, ∃ y ∈ L, x ≠ y ∧ sum x = sum y
theorem Coll.mono {L M : List (List UInt8)} (h : Coll L) (hs : ∀ x ∈ L, x ∈ M) : Coll M := by
  obtain ⟨x, hx, y, hy, hne, he⟩ := h
  exact ⟨x, hs x hx, y, hs y hy, hne, he⟩
theorem Coll.of {x y : List UInt8} {L : List (List UInt8)} (hx : x ∈ L) (hy : y ∈ L) (he : sum x = sum y) : x = y ∨ Coll L := by
  by_cases h : x = y
  · exact .inl h
  · exact .inr ⟨x, hx, y, hy, h, he⟩
end Go.Proofs.YtcojfnjpcpochaaDoor.V
end
section
/- What later layers use of layer 1, by abstract steps: Input and Tag of lists of texts. -/
namespace Go.Proofs.YtcojfnjpcpochaaDoor.E
open Go Go.RowKit Go.Proofs.YtcojfnjpcpochaaDoor.V
theorem strs_of {N : Nat → Nat → Prop} {ρ : Env} {w : World} {ps : List (List UInt8)} {v : Value} (h : VRel N ρ w (.sl none ps.length (ps.map sA)) v) (hN : ∀ b o, N b o → b < w.heap.size) : Strs w v ps := by
  cases h with
  | sl o n cs a cap vals hc h ho hn hz hm =>
    refine ⟨a, cap, rfl, hn, hm, fun i hi => ?_⟩
    obtain ⟨_, b, off, ha, hx, hnn⟩ := hc i (by simpa using hi)
    have hv := (h i (.v (.string (B (sget ps i)))) (by simp [sget, hi])).raw
    refine ⟨b, off, ha, hN _ _ hnn, ?_⟩
    rw [hx, hv]
    rfl
theorem vrel_of {w : World} {ps : List (List UInt8)} {v : Value} (h : Strs w v ps) : VRel (allN w) noE w (.sl none ps.length (ps.map sA)) v := by
  obtain ⟨a, cap, rfl, h1, h2, hc⟩ := h
  refine .sl none _ _ a cap (fun i => sv (sget ps i)) (fun i hi => ?_) (fun i c hc' => ?_) (fun k hk => by cases hk) h1 (fun ha => ?_) h2
  · obtain ⟨b, off, ha, hb, hx⟩ := hc i (by simpa using hi)
    exact ⟨rfl, b, off, ha, hx, hb⟩
  · rw [List.getElem?_map] at hc'
    cases hp : ps[i]? with
    | none => rw [hp] at hc'; cases hc'
    | some p =>
      rw [hp] at hc'
      cases hc'
      have : sget ps i = p := by simp [sget, hp]
      show VRel _ _ _ _ (sv (sget ps i))
      rw [this]
      exact .v _
  · cases hps : ps with
    | nil => rfl
    | cons p r =>
      obtain ⟨b, off, ha', _⟩ := hc 0 (by simp [hps])
      rw [ha] at ha'
      cases ha'
theorem fit_cells (n : Nat) (l : List UInt8) : ((splice (List.replicate n (.v (.int .u8 0))) 0 ((l.take n).map bA)).drop 0).take n = (fit n l).map bA := by
  have h1 : (l.take n).length ≤ n := by simp; omega
  have h0 : (.v (.int .u8 0) : AV) = bA 0 := rfl
  unfold splice fit
  rw [h0]
  generalize l.take n = m at *
  rw [List.take_zero, List.nil_append, List.drop_zero, List.length_map, Nat.zero_add, List.drop_replicate, List.map_append, List.map_replicate, List.take_of_length_le]
  simp
  omega
theorem two {vs : Array Value} (h : vs.size = 2) : ∃ a b, vs = #[a, b] := by
  obtain ⟨l⟩ := vs
  match l, h with
  | [a, b], _ => exact ⟨a, b, rfl⟩
theorem input_fc {G : List (Nat × Array Value)} (d : UInt8) (ps : List (List UInt8)) (hL : (input d ps).length ≤ 140737488355328) :
    FC Tryd.prog G 83 [.v (.int .u8 (U8 d)), .sl none ps.length (ps.map sA)] [] (sA (input d ps)) [] :=
  FC.of_calls Tryd.func83 rfl rfl ⟨trivial, ⟨by simp, belL_s _ _⟩, trivial⟩ fun A vs hG HS hsz h => by
    obtain ⟨a, v, rfl⟩ := two hsz
    obtain rfl := (h 0 _ _ rfl rfl).raw
    exact input_ok d v ps A.w (strs_of (h 1 _ _ rfl rfl) fun b o hb => hb.1) hL
theorem tag_fc {G : List (Nat × Array Value)} (hm : ShaIn G) (d : UInt8) (ps : List (List UInt8)) (hL : (input d ps).length ≤ 140737488355328) :
    FC Tryd.prog G 67 [.v (.int .u8 (U8 d)), .sl none ps.length (ps.map sA)] [] (sA (tag d ps)) [] :=
  FC.of_calls Tryd.func67 rfl rfl ⟨trivial, ⟨by simp, belL_s _ _⟩, trivial⟩ fun A vs hG HS hsz h => by
    obtain ⟨a, v, rfl⟩ := two hsz
    obtain rfl := (h 0 _ _ rfl rfl).raw
    exact tag_ok d v ps A.w (tabs_hsat HS hG hm) (strs_of (h 1 _ _ rfl rfl) fun b o hb => hb.1) hL
end Go.Proofs.YtcojfnjpcpochaaDoor.E
end
section
/- What layer 6 computes, in plain Lean: nodes, levels, roots, paths, climbs; and the stage's theorems on them. -/
namespace Go.Proofs.YtcojfnjpcpochaaDoor.V

abbrev Txt := List UInt8
def node (a b : Txt) : Txt := tag 5 [a, b]
def inp2 (a b : Txt) : Txt := input 5 [a, b]
theorem node_eq (a b : Txt) : node a b = sum (inp2 a b) := rfl
theorem node_length (a b : Txt) : (node a b).length = 32 := tag_length _ _
theorem inp2_length (a b : Txt) : (inp2 a b).length = a.length + b.length + 9 := by
  simp [inp2, input, be4_length]
  omega
theorem inp2_inj {a b c d : Txt} (ha : a.length < 4294967296) (hb : b.length < 4294967296) (hc : c.length < 4294967296) (hd : d.length < 4294967296) (h : inp2 a b = inp2 c d) : a = c ∧ b = d := by
  have := (input_inj (d := 5) (e := 5) (a := [a, b]) (b := [c, d]) (by simp [ha, hb]) (by simp [hc, hd])).1 h
  simpa using this.2
/-- what comes of each two that stand side by side -/
def pairsL {β : Type} (f : Txt → Txt → β) : List Txt → List β
  | a :: b :: r => f a b :: pairsL f r
  | _ => []
theorem pairsL_length {β : Type} (f : Txt → Txt → β) : ∀ l : List Txt, (pairsL f l).length = l.length / 2
  | [] => rfl
  | [_] => by simp [pairsL]
  | a :: b :: r => by
    show (pairsL f r).length + 1 = (r.length + 1 + 1) / 2
    rw [pairsL_length f r]
    omega
def tget (l : List Txt) (i : Nat) : Txt := l[i]?.getD []
theorem tget_mem {l : List Txt} {i : Nat} (h : i < l.length) : tget l i ∈ l := by
  rw [tget, List.getElem?_eq_getElem h]
  exact List.getElem_mem h
theorem tget_some {l : List Txt} {i : Nat} (h : i < l.length) : l[i]? = some (tget l i) := by
  rw [tget, List.getElem?_eq_getElem h]
  rfl
theorem pairsL_get {β : Type} (f : Txt → Txt → β) : ∀ (l : List Txt) (j : Nat), 2 * j + 1 < l.length → (pairsL f l)[j]? = some (f (tget l (2 * j)) (tget l (2 * j + 1)))
  | [], _, h => by simp at h
  | [_], _, h => by simp at h
  | a :: b :: r, 0, _ => rfl
  | a :: b :: r, j + 1, h => by
    show (pairsL f r)[j]? = _
    rw [pairsL_get f r j (by simp at h; omega)]
    rfl
theorem tget_pairs (l : List Txt) (j : Nat) (h : 2 * j + 1 < l.length) : tget (pairsL node l) j = node (tget l (2 * j)) (tget l (2 * j + 1)) := by
  rw [tget, pairsL_get node l j h]
  rfl
theorem pairsL_append {β : Type} (f : Txt → Txt → β) : ∀ (n : Nat) (a b : List Txt), a.length = 2 * n → pairsL f (a ++ b) = pairsL f a ++ pairsL f b
  | 0, a, b, h => by
    obtain rfl : a = [] := List.eq_nil_of_length_eq_zero (by omega)
    rfl
  | n + 1, a, b, h => by
    match a, h with
    | x :: y :: a, h =>
      show f x y :: pairsL f (a ++ b) = f x y :: pairsL f a ++ pairsL f b
      rw [pairsL_append f n a b (by simp at h; omega)]
      rfl
theorem pairsL_step {β : Type} (f : Txt → Txt → β) (l : List Txt) (m : Nat) (h : 2 * m + 1 < l.length) : pairsL f (l.take (2 * (m + 1))) = pairsL f (l.take (2 * m)) ++ [f (tget l (2 * m)) (tget l (2 * m + 1))] := by
  have h1 : l.take (2 * (m + 1)) = l.take (2 * m) ++ [tget l (2 * m), tget l (2 * m + 1)] := by
    have e : 2 * (m + 1) = 2 * m + 1 + 1 := by omega
    rw [e, List.take_succ_eq_append_getElem h, List.take_succ_eq_append_getElem (by omega : 2 * m < l.length), List.append_assoc]
    have a := tget_some (l := l) (i := 2 * m) (by omega)
    have b := tget_some (l := l) (i := 2 * m + 1) h
    rw [List.getElem?_eq_getElem (by omega)] at a
    rw [List.getElem?_eq_getElem h] at b
    rw [Option.some.inj a, Option.some.inj b]
    rfl
  rw [h1, pairsL_append f m _ _ (by rw [List.length_take]; omega)]
  rfl
theorem pairsL_last {β : Type} (f : Txt → Txt → β) (l : List Txt) (m : Nat) (h1 : 2 * m ≤ l.length) (h2 : l.length ≤ 2 * m + 1) : pairsL f (l.take (2 * m)) = pairsL f l := by
  have h := pairsL_append f m (l.take (2 * m)) (l.drop (2 * m)) (by rw [List.length_take]; omega)
  rw [List.take_append_drop] at h
  rw [h]
  have : (l.drop (2 * m)).length ≤ 1 := by rw [List.length_drop]; omega
  match l.drop (2 * m), this with
  | [], _ => simp [pairsL]
  | [_], _ => simp [pairsL]
theorem pairsL_take {β : Type} (f : Txt → Txt → β) (l : List Txt) (m : Nat) (h : 2 * m ≤ l.length) : pairsL f (l.take (2 * m)) = (pairsL f l).take m ∧ pairsL f (l.drop (2 * m)) = (pairsL f l).drop m := by
  have hl : (l.take (2 * m)).length = 2 * m := by rw [List.length_take]; omega
  have h := pairsL_append f m (l.take (2 * m)) (l.drop (2 * m)) hl
  rw [List.take_append_drop] at h
  have hm : (pairsL f (l.take (2 * m))).length = m := by rw [pairsL_length, hl]; omega
  rw [h]
  constructor
  · rw [List.take_append_of_le_length (by omega)]
    exact (List.take_of_length_le (Nat.le_of_eq hm)).symm
  · rw [List.drop_append_of_le_length (by omega), show (pairsL f (l.take (2 * m))).drop m = [] from List.drop_of_length_le (Nat.le_of_eq hm)]
    rfl
theorem pairs_mem_length {l : List Txt} : ∀ x ∈ pairsL node l, x.length = 32 := by
  match l with
  | [] => intro x hx; cases hx
  | [_] => intro x hx; cases hx
  | a :: b :: r =>
    intro x hx
    rcases List.mem_cons.1 hx with rfl | hx
    · exact node_length _ _
    · exact pairs_mem_length (l := r) x hx

/-- the one beside -/
def sib (i : Nat) : Nat := if i % 2 = 0 then i + 1 else i - 1
theorem sib_sib (i : Nat) : sib (sib i) = i := by unfold sib; split <;> split <;> omega
theorem sib_half (i : Nat) : sib i / 2 = i / 2 := by unfold sib; split <;> omega
theorem sib_lt {i n : Nat} (h : i < 2 * n) : sib i < 2 * n := by unfold sib; split <;> omega
/-- the parent of two, one of which is told -/
def par (x : Txt) (i : Nat) (s : Txt) : Txt := if i % 2 = 0 then node x s else node s x
def parI (x : Txt) (i : Nat) (s : Txt) : Txt := if i % 2 = 0 then inp2 x s else inp2 s x
theorem par_eq (x : Txt) (i : Nat) (s : Txt) : par x i s = sum (parI x i s) := by unfold par parI; split <;> rfl
theorem par_length (x : Txt) (i : Nat) (s : Txt) : (par x i s).length = 32 := by rw [par_eq]; exact sum_length _
theorem par_get (l : List Txt) (i n : Nat) (h : i < 2 * n) (hl : l.length = 2 * n) : par (tget l i) i (tget l (sib i)) = tget (pairsL node l) (i / 2) := by
  rw [tget_pairs l (i / 2) (by omega)]
  unfold par sib
  split
  · rw [show 2 * (i / 2) = i by omega]
  · rw [show 2 * (i / 2) = i - 1 by omega, show i - 1 + 1 = i by omega]
def rootN : Nat → List Txt → Txt
  | 0, l => tget l 0
  | n + 1, l => rootN n (pairsL node l)
def pathN : Nat → List Txt → Nat → List Txt
  | 0, _, _ => []
  | n + 1, l, i => tget l (sib i) :: pathN n (pairsL node l) (i / 2)
def inputsN : Nat → List Txt → List Txt
  | 0, _ => []
  | n + 1, l => pairsL inp2 l ++ inputsN n (pairsL node l)
def climbL : Txt → Nat → List Txt → Txt
  | x, _, [] => x
  | x, i, s :: p => climbL (par x i s) (i / 2) p
def climbedL : Txt → Nat → List Txt → List Txt
  | _, _, [] => []
  | x, i, s :: p => parI x i s :: climbedL (par x i s) (i / 2) p
theorem pathN_length : ∀ (n : Nat) (l : List Txt) (i : Nat), (pathN n l i).length = n
  | 0, _, _ => rfl
  | n + 1, l, i => by simp [pathN, pathN_length n]
theorem climbedL_length : ∀ (p : List Txt) (x : Txt) (i : Nat), (climbedL x i p).length = p.length
  | [], _, _ => rfl
  | s :: p, x, i => by simp [climbedL, climbedL_length p]
theorem half_len {l : List Txt} {h : Nat} (hl : l.length = 2 ^ (h + 1)) : (pairsL node l).length = 2 ^ h := by
  rw [pairsL_length, hl, Nat.pow_succ]
  omega
theorem inputsN_length : ∀ (n : Nat) (l : List Txt), l.length = 2 ^ n → (inputsN n l).length + 1 = 2 ^ n
  | 0, _, _ => rfl
  | n + 1, l, hl => by
    have := inputsN_length n (pairsL node l) (half_len hl)
    simp only [inputsN, List.length_append, pairsL_length, hl, Nat.pow_succ] at *
    omega
theorem pathN_mem : ∀ (n : Nat) (l : List Txt) (i : Nat), l.length = 2 ^ n → i < 2 ^ n → (∀ x ∈ l, x.length = 32) → ∀ x ∈ pathN n l i, x.length = 32
  | 0, _, _, _, _, _, x, hx => by cases hx
  | n + 1, l, i, hl, hi, h32, x, hx => by
    have hp : 2 ^ (n + 1) = 2 * 2 ^ n := by rw [Nat.pow_succ]; omega
    rcases List.mem_cons.1 hx with rfl | hx
    · exact h32 _ (tget_mem (by have := sib_lt (i := i) (n := 2 ^ n) (by omega); omega))
    · exact pathN_mem n _ _ (half_len hl) (by omega) pairs_mem_length x hx
/-- Climb of a leaf and its path is the root -/
theorem climb_path : ∀ (n : Nat) (l : List Txt) (i : Nat), l.length = 2 ^ n → i < 2 ^ n → climbL (tget l i) i (pathN n l i) = rootN n l
  | 0, l, i, _, hi => by
    obtain rfl : i = 0 := by simp at hi; exact hi
    rfl
  | n + 1, l, i, hl, hi => by
    have hp : 2 ^ (n + 1) = 2 * 2 ^ n := by rw [Nat.pow_succ]; omega
    show climbL (par (tget l i) i (tget l (sib i))) (i / 2) (pathN n (pairsL node l) (i / 2)) = rootN n (pairsL node l)
    rw [par_get l i (2 ^ n) (by omega) (by omega)]
    exact climb_path n _ _ (half_len hl) (by omega)
theorem pairs_mem {l : List Txt} {j : Nat} {β : Type} (f : Txt → Txt → β) (h : 2 * j + 1 < l.length) : f (tget l (2 * j)) (tget l (2 * j + 1)) ∈ pairsL f l :=
  List.mem_of_getElem? (pairsL_get f l j h)
theorem small {x : Txt} (h : x.length = 32) : x.length < 4294967296 := by omega
/-- what climbs to the root is the leaf there -/
theorem sound : ∀ (n : Nat) (l : List Txt) (i : Nat) (x : Txt) (p : List Txt), l.length = 2 ^ n → i < 2 ^ n → (∀ y ∈ l, y.length = 32) → x.length = 32 → p.length = n → (∀ y ∈ p, y.length = 32) → climbL x i p = rootN n l →
    (x = tget l i ∧ p = pathN n l i) ∨ Coll (inputsN n l ++ climbedL x i p)
  | 0, l, i, x, p, hl, hi, h32, hx, hp, hp32, he => by
    obtain rfl : p = [] := List.eq_nil_of_length_eq_zero hp
    obtain rfl : i = 0 := by simp at hi; exact hi
    exact .inl ⟨he, rfl⟩
  | n + 1, l, i, x, p, hl, hi, h32, hx, hp, hp32, he => by
    have h2 : 2 ^ (n + 1) = 2 * 2 ^ n := by rw [Nat.pow_succ]; omega
    match p, hp with
    | s :: p, hp =>
      have ih := sound n (pairsL node l) (i / 2) (par x i s) p (half_len hl) (by omega) pairs_mem_length (par_length _ _ _) (by simpa using hp) (fun y hy => hp32 y (by simp [hy])) he
      rcases ih with ⟨h1, hq⟩ | hc
      · have hj : 2 * (i / 2) + 1 < l.length := by omega
        have hs : s.length = 32 := hp32 s (by simp)
        have ha : (tget l i).length = 32 := h32 _ (tget_mem (by omega))
        have hb : (tget l (sib i)).length = 32 := h32 _ (tget_mem (by have := sib_lt (i := i) (n := 2 ^ n) (by omega); omega))
        rw [← par_get l i (2 ^ n) (by omega) (by omega)] at h1
        rw [par_eq, par_eq] at h1
        have hm : parI (tget l i) i (tget l (sib i)) ∈ pairsL inp2 l := by
          have := pairs_mem inp2 hj
          unfold parI sib
          split
          · rw [show 2 * (i / 2) = i by omega] at this; exact this
          · rw [show 2 * (i / 2) = i - 1 by omega, show i - 1 + 1 = i by omega] at this; exact this
        rcases Coll.of (x := parI x i s) (y := parI (tget l i) i (tget l (sib i))) (L := inputsN (n + 1) l ++ climbedL x i (s :: p)) (by simp [climbedL]) (by simp [inputsN, hm]) h1 with h3 | h3
        · refine .inl ?_
          have h4 : x = tget l i ∧ s = tget l (sib i) := by
            unfold parI at h3
            split at h3
            · exact inp2_inj (small hx) (small hs) (small ha) (small hb) h3
            · have := inp2_inj (small hs) (small hx) (small hb) (small ha) h3
              exact ⟨this.2, this.1⟩
          refine ⟨h4.1, ?_⟩
          show s :: p = tget l (sib i) :: pathN n (pairsL node l) (i / 2)
          rw [← h4.2, ← hq]
        · exact .inr h3
      · refine .inr (hc.mono fun y hy => ?_)
        simp only [inputsN, climbedL, List.mem_append, List.mem_cons] at hy ⊢
        rcases hy with hy | hy
        · exact .inl (.inr hy)
        · exact .inr (.inr hy)
theorem pairs_roots : ∀ (n : Nat) (a b : List Txt), a.length = 2 * n → b.length = 2 * n → (∀ y ∈ a, y.length = 32) → (∀ y ∈ b, y.length = 32) → pairsL node a = pairsL node b → a = b ∨ Coll (pairsL inp2 a ++ pairsL inp2 b)
  | 0, a, b, ha, hb, _, _, _ => by
    obtain rfl : a = [] := List.eq_nil_of_length_eq_zero (by omega)
    obtain rfl : b = [] := List.eq_nil_of_length_eq_zero (by omega)
    exact .inl rfl
  | n + 1, a, b, ha, hb, h1, h2, h => by
    match a, b, ha, hb with
    | x :: y :: a, u :: v :: b, ha, hb =>
      simp only [pairsL, List.cons.injEq] at h
      rcases pairs_roots n a b (by simp at ha; omega) (by simp at hb; omega) (fun z hz => h1 z (by simp [hz])) (fun z hz => h2 z (by simp [hz])) h.2 with h3 | h3
      · rcases Coll.of (x := inp2 x y) (y := inp2 u v) (L := pairsL inp2 (x :: y :: a) ++ pairsL inp2 (u :: v :: b)) (by simp [pairsL]) (by simp [pairsL]) h.1 with h4 | h4
        · obtain ⟨h5, h6⟩ := inp2_inj (small (h1 x (by simp))) (small (h1 y (by simp))) (small (h2 u (by simp))) (small (h2 v (by simp))) h4
          exact .inl (by rw [h5, h6, h3])
        · exact .inr h4
      · refine .inr (h3.mono fun z hz => ?_)
        simp only [pairsL, List.mem_append, List.mem_cons] at hz ⊢
        rcases hz with hz | hz
        · exact .inl (.inr hz)
        · exact .inr (.inr hz)
/-- of unlike leaves the roots are unlike -/
theorem roots : ∀ (n : Nat) (a b : List Txt), a.length = 2 ^ n → b.length = 2 ^ n → (∀ y ∈ a, y.length = 32) → (∀ y ∈ b, y.length = 32) → rootN n a = rootN n b → a = b ∨ Coll (inputsN n a ++ inputsN n b)
  | 0, a, b, ha, hb, _, _, h => by
    match a, b, ha, hb with
    | [x], [y], _, _ => exact .inl (by rw [show x = y from h])
  | n + 1, a, b, ha, hb, h1, h2, h => by
    have hp : 2 ^ (n + 1) = 2 * 2 ^ n := by rw [Nat.pow_succ]; omega
    rcases roots n _ _ (half_len ha) (half_len hb) pairs_mem_length pairs_mem_length h with h3 | h3
    · rcases pairs_roots (2 ^ n) a b (by omega) (by omega) h1 h2 h3 with h4 | h4
      · exact .inl h4
      · refine .inr (h4.mono fun z hz => ?_)
        simp only [inputsN, List.mem_append] at hz ⊢
        rcases hz with hz | hz
        · exact .inl (.inl hz)
        · exact .inr (.inl hz)
    · refine .inr (h3.mono fun z hz => ?_)
      simp only [inputsN, List.mem_append] at hz ⊢
      rcases hz with hz | hz
      · exact .inl (.inr hz)
      · exact .inr (.inr hz)
theorem halves : ∀ (n : Nat) (l : List Txt), l.length = 2 ^ (n + 1) → rootN (n + 1) l = node (rootN n (l.take (2 ^ n))) (rootN n (l.drop (2 ^ n)))
  | 0, l, hl => by
    match l, hl with
    | [a, b], _ => rfl
  | n + 1, l, hl => by
    have h1 : 2 ^ (n + 1) = 2 * 2 ^ n := by rw [Nat.pow_succ]; omega
    have h2 : 2 ^ (n + 1 + 1) = 2 * 2 ^ (n + 1) := by rw [Nat.pow_succ]; omega
    obtain ⟨h3, h4⟩ := pairsL_take node l (2 ^ n) (by omega)
    show rootN (n + 1) (pairsL node l) = node (rootN n (pairsL node (l.take (2 ^ (n + 1))))) (rootN n (pairsL node (l.drop (2 ^ (n + 1)))))
    rw [halves n _ (half_len hl), h1, h3, h4]
/-- a path's last text is the other half's root -/
theorem path_last : ∀ (n : Nat) (l : List Txt) (i : Nat), l.length = 2 ^ (n + 1) → i < 2 ^ (n + 1) → tget (pathN (n + 1) l i) n = if 2 ^ n ≤ i then rootN n (l.take (2 ^ n)) else rootN n (l.drop (2 ^ n))
  | 0, l, i, hl, hi => by
    match l, hl with
    | [a, b], _ =>
      have : i = 0 ∨ i = 1 := by simp at hi; omega
      rcases this with rfl | rfl <;> rfl
  | n + 1, l, i, hl, hi => by
    have h1 : 2 ^ (n + 1) = 2 * 2 ^ n := by rw [Nat.pow_succ]; omega
    have h2 : 2 ^ (n + 1 + 1) = 2 * 2 ^ (n + 1) := by rw [Nat.pow_succ]; omega
    obtain ⟨h3, h4⟩ := pairsL_take node l (2 ^ n) (by omega)
    show tget (pathN (n + 1) (pairsL node l) (i / 2)) n = if 2 ^ (n + 1) ≤ i then rootN n (pairsL node (l.take (2 ^ (n + 1)))) else rootN n (pairsL node (l.drop (2 ^ (n + 1))))
    rw [path_last n _ _ (half_len hl) (by omega), h1, h3, h4]
    by_cases h : 2 ^ n ≤ i / 2
    · rw [if_pos h, if_pos (by omega)]
    · rw [if_neg h, if_neg (by omega)]
theorem path_first (n : Nat) (l : List Txt) (i : Nat) : tget (pathN (n + 1) l i) 0 = tget l (sib i) := rfl
theorem path_sib (n : Nat) (l : List Txt) (i : Nat) : (pathN (n + 1) l (sib i)).drop 1 = (pathN (n + 1) l i).drop 1 := by
  show pathN n _ (sib i / 2) = pathN n _ (i / 2)
  rw [sib_half]
theorem inputs_last : ∀ (n : Nat) (l : List Txt), l.length = 2 ^ (n + 1) → sum (tget (inputsN (n + 1) l) ((inputsN (n + 1) l).length - 1)) = rootN (n + 1) l
  | 0, l, hl => by
    match l, hl with
    | [a, b], _ => rfl
  | n + 1, l, hl => by
    have ih := inputs_last n (pairsL node l) (half_len hl)
    have h0 := inputsN_length (n + 1) (pairsL node l) (half_len hl)
    have h1 : 2 ^ (n + 1) = 2 * 2 ^ n := by rw [Nat.pow_succ]; omega
    have hp : 0 < 2 ^ n := Nat.pow_pos (by decide)
    show sum (tget (pairsL inp2 l ++ inputsN (n + 1) (pairsL node l)) _) = rootN (n + 1) (pairsL node l)
    rw [← ih]
    congr 1
    show ((pairsL inp2 l ++ inputsN (n + 1) (pairsL node l))[(pairsL inp2 l ++ inputsN (n + 1) (pairsL node l)).length - 1]?).getD [] = ((inputsN (n + 1) (pairsL node l))[(inputsN (n + 1) (pairsL node l)).length - 1]?).getD []
    rw [List.length_append, List.getElem?_append_right (by omega)]
    congr 2
    omega
theorem climbed_last : ∀ (p : List Txt) (x : Txt) (i : Nat), p ≠ [] → sum (tget (climbedL x i p) ((climbedL x i p).length - 1)) = climbL x i p
  | [s], x, i, _ => (par_eq x i s).symm
  | s :: t :: p, x, i, _ => by
    have ih := climbed_last (t :: p) (par x i s) (i / 2) (by simp)
    show sum (tget (parI x i s :: climbedL (par x i s) (i / 2) (t :: p)) _) = climbL (par x i s) (i / 2) (t :: p)
    rw [← ih]
    congr 1
theorem climbL_length : ∀ (p : List Txt) (x : Txt) (i : Nat), p ≠ [] → (climbL x i p).length = 32
  | [s], x, i, _ => par_length x i s
  | s :: t :: p, x, i, _ => climbL_length (t :: p) (par x i s) (i / 2) (by simp)

def mayN (n : Nat) : Bool := n == 1 || n == 2 || n == 4 || n == 8 || n == 16 || n == 32 || n == 64 || n == 128
theorem mayN_iff {n : Nat} : mayN n = true ↔ ∃ h, h ≤ 7 ∧ n = 2 ^ h := by
  constructor
  · intro h
    simp only [mayN, Bool.or_eq_true, beq_iff_eq] at h
    rcases h with ((((((h | h) | h) | h) | h) | h) | h) | h
    · exact ⟨0, by omega, h⟩
    · exact ⟨1, by omega, h⟩
    · exact ⟨2, by omega, h⟩
    · exact ⟨3, by omega, h⟩
    · exact ⟨4, by omega, h⟩
    · exact ⟨5, by omega, h⟩
    · exact ⟨6, by omega, h⟩
    · exact ⟨7, by omega, h⟩
  · rintro ⟨h, hh, rfl⟩
    have : h = 0 ∨ h = 1 ∨ h = 2 ∨ h = 3 ∨ h = 4 ∨ h = 5 ∨ h = 6 ∨ h = 7 := by omega
    rcases this with rfl | rfl | rfl | rfl | rfl | rfl | rfl | rfl <;> rfl
theorem mayN_pow {h : Nat} (hh : h ≤ 7) : mayN (2 ^ h) = true := mayN_iff.2 ⟨h, hh, rfl⟩
def rootT (l : List Txt) : Txt := if mayN l.length then rootN (Nat.log2 l.length) l else []
def pathT (l : List Txt) (i : Int) : List Txt := if mayN l.length ∧ 0 ≤ i ∧ i < l.length then pathN (Nat.log2 l.length) l i.toNat else []
def inputsT (l : List Txt) : List Txt := if mayN l.length then inputsN (Nat.log2 l.length) l else []
def climbT (x : Txt) (i : Int) (p : List Txt) : Txt := climbL x i.toNat p
def climbedT (x : Txt) (i : Int) (p : List Txt) : List Txt := climbedL x i.toNat p
theorem rootT_eq {l : List Txt} {h : Nat} (hh : h ≤ 7) (hl : l.length = 2 ^ h) : rootT l = rootN h l := by
  rw [rootT, hl, mayN_pow hh, Nat.log2_two_pow]
  rfl
theorem pathT_eq {l : List Txt} {h i : Nat} (hh : h ≤ 7) (hl : l.length = 2 ^ h) (hi : i < 2 ^ h) : pathT l (i : Int) = pathN h l i := by
  rw [pathT, hl, mayN_pow hh, Nat.log2_two_pow, if_pos ⟨rfl, by omega, by omega⟩]
  rfl
theorem inputsT_eq {l : List Txt} {h : Nat} (hh : h ≤ 7) (hl : l.length = 2 ^ h) : inputsT l = inputsN h l := by
  rw [inputsT, hl, mayN_pow hh, Nat.log2_two_pow]
  rfl
end Go.Proofs.YtcojfnjpcpochaaDoor.V
end
