import Derived.Test.YtcojfnjpcpochaaDoorZ4ef8f68e
import Derived.Test.YtcojfnjpcpochaaDoorZ2b98b997
import Derived.Laws.Small
import Derived.Laws.Slices
import Derived.Test.YtcojfnjpcpochaaDoorZf7befc0e
section
namespace Go.Proofs.YtcojfnjpcpochaaDoor.E
open Go Go.RowKit Go.Proofs.YtcojfnjpcpochaaDoor.V
attribute [local go_sem] B_size B_append B_extract mk_B B_toList take_drop_len List.length_drop List.length_take sgn32 sgn64 add32 sub32 mul32 add64 sub64 mul64 mul64_8 and32 or32 xor32 and64 or64 xor64 shl32_run shr32_run shl64_run shr64_run not32 not32' xor32_all w_u32_u8 w_u64_u8 w_i64_u8 w_u8_u32 w_u8_u64 w_u32_u64 w_u64_u32 w_u8_u8 w_u32_u32 w_u64_u64
attribute [local go_sem ↓] run_index_B' add32 sub32 mul32 add64 sub64 mul64 mul64_8 and32 or32 xor32 and64 or64 xor64 shl32_run shr32_run shl64_run shr64_run not32 not32' xor32_all w_u32_u8 w_u64_u8 w_i64_u8 w_u8_u32 w_u8_u64 w_u32_u64 w_u64_u32 w_u8_u8 w_u32_u32 w_u64_u64 w_u64_nat w_u32_nat w_u8_nat
set_option maxRecDepth 4000

theorem vs_raw {N : Nat → Nat → Prop} {ρ : Env} {w : World} {xs : List Value} {args : List AV} {vs : Array Value} (he : args = xs.map AV.v) (hsz : vs.size = args.length) (h : ∀ (i : Nat) (c : AV) (x : Value), args[i]? = some c → vs[i]? = some x → VRel N ρ w c x) : vs = xs.toArray := by
  subst he
  apply Array.ext
  · simpa using hsz
  · intro i h1 h2
    have h2' : i < xs.length := by simpa using h2
    have := (h i (.v xs[i]) vs[i] (by simp [h2']) (Array.getElem?_eq_getElem h1)).raw
    simpa using this
def ShaIn (G : List (Nat × Array Value)) : Prop := (1, kArr) ∈ G ∧ (0, first.cells) ∈ G
theorem tabs_hsat {A : Amb} {h : Nat → Option AO} {u : Nat → Bool} {ρ : Env} {w : World} (H : HSat A ρ h u w) {G : List (Nat × Array Value)} (hG : A.G = G) (hm : ShaIn G) : Tabs w := by
  obtain ⟨T, h1⟩ := tab_of H hG (g := 1) (arr := kArr) hm.1
  obtain ⟨T', h2⟩ := tab_of H hG (g := 0) (arr := first.cells) hm.2
  refine ⟨⟨(Array.getElem?_eq_some_iff.1 h1).1, (Array.getElem?_eq_some_iff.1 h2).1⟩, fun i hi => cell_at h1 ?_, T', h2⟩
  have hi' : i < kTab.length := hi
  simp [kArr, lget, hi', wv]
theorem sum_fc {G : List (Nat × Array Value)} (hm : ShaIn G) (l : List UInt8) (hl : (l.length : Int) ≤ 9223372036854775000) : FC Tryd.prog G 76 [sA l] [] (sA (sum l)) [] :=
  FC.of_calls Tryd.func76 rfl rfl ⟨trivial, trivial⟩ fun A vs hG HS hsz h => by
    obtain rfl := vs_raw (xs := [.string (B l)]) rfl hsz h
    exact sum_ok l A.w (tabs_hsat HS hG hm) hl
end Go.Proofs.YtcojfnjpcpochaaDoor.E
end
section
namespace Go.Proofs.YtcojfnjpcpochaaDoor.E
open Go Go.RowKit Go.Proofs.YtcojfnjpcpochaaDoor.V
attribute [local go_sem] B_size B_append B_extract mk_B B_toList take_drop_len List.length_drop List.length_take sgn32 sgn64 add32 sub32 mul32 add64 sub64 mul64 mul64_8 and32 or32 xor32 and64 or64 xor64 shl32_run shr32_run shl64_run shr64_run not32 not32' xor32_all w_u32_u8 w_u64_u8 w_i64_u8 w_u8_u32 w_u8_u64 w_u32_u64 w_u64_u32 w_u8_u8 w_u32_u32 w_u64_u64
attribute [local go_sem ↓] run_index_B' add32 sub32 mul32 add64 sub64 mul64 mul64_8 and32 or32 xor32 and64 or64 xor64 shl32_run shr32_run shl64_run shr64_run not32 not32' xor32_all w_u32_u8 w_u64_u8 w_i64_u8 w_u8_u32 w_u8_u64 w_u32_u64 w_u64_u32 w_u8_u8 w_u32_u32 w_u64_u64 w_u64_nat w_u32_nat w_u8_nat
set_option maxRecDepth 4000

section
variable {P : Program} {G : List (Nat × Array Value)} {dst : Option Tmp} {ty : TypeId} {pos : String} {aft : Array Edge} {gd : Option (Nat × Bool)}
theorem OpS.strEqT {t t' : TypeId} {x y : Operand} {a : List UInt8} :
    OpS P G ⟨dst, .binOp .eql t x y t', ty, pos, aft, gd⟩ [(x, .v (.string (B a))), (y, .v (.string (B a)))] [] ⟨some (.v (.bool true)), [], []⟩ := by
  have := OpS.strEql (P := P) (G := G) (dst := dst) (ty := ty) (pos := pos) (aft := aft) (gd := gd) (t := t) (t' := t') (x := x) (y := y) (a := a) (b := a)
  simpa using this
theorem OpS.shrN {t t' : TypeId} {x y : Operand} {n j : Nat} {k' : IntKind} {m : Int} (h : m = (j : Int)) (hj : j ≤ 64) :
    OpS P G ⟨dst, .binOp .shr t x y t', ty, pos, aft, gd⟩ [(x, .v (.int .i64 (n : Int))), (y, .v (.int k' m))] [] ⟨some (.v (.int .i64 ((n / 2 ^ j : Nat) : Int))), [], []⟩ := by
  subst h
  refine OpS.binR rfl fun w => ?_
  show (Op.shift .shr .i64 (n : Int) k' (j : Int)).run P w = _
  unfold Op.shift
  rw [if_neg (by omega)]
  show Result.ok (Value.int .i64 ((n : Int).fdiv (2 ^ (min ((j : Int)).toNat 64)))) w = _
  rw [Int.toNat_natCast, Nat.min_eq_left hj, Int.fdiv_eq_ediv_of_nonneg _ (by have := Int.natCast_nonneg (2 ^ j : Nat); push_cast at this; exact this), Int.natCast_ediv, Int.natCast_pow]
  rfl
end

theorem eat_next (m : Nat) (v : V.St) (l : List UInt8) (h : 64 * m ≤ l.length) : eat (m + 1) v l = mixed (eat m v l) ((l.drop (64 * m)).take 64) := by
  have hx : (l.take (64 * m)).length = 64 * m := by simp; omega
  have h1 := eat_append m 1 v (l.take (64 * m)) (l.drop (64 * m)) hx
  have h0 := eat_append m 0 v (l.take (64 * m)) (l.drop (64 * m)) hx
  rw [List.take_append_drop] at h1 h0
  have h0' : eat m v l = eat m v (l.take (64 * m)) := h0
  rw [h1, h0']
  rfl
theorem sum_eat (l : List UInt8) : ∃ q, (l ++ pad l.length).length = 64 * q ∧ sum l = (eat q first (l ++ pad l.length)).text := by
  have hp := pad_len l.length
  refine ⟨(l ++ pad l.length).length / 64, ?_, rfl⟩
  rw [List.length_append]
  omega
attribute [local irreducible] mixed readSt St.text pad sum
theorem rsum_fc {G : List (Nat × Array Value)} (hk : (3, kArr) ∈ G) (hf : (2, first.cells) ∈ G) (l : List UInt8) (hl : (l.length : Int) ≤ 9223372036854775000) :
    FC Tryd.prog G 80 [sA l] [] (sA (sum l)) [] := by
  refine FC.of_wp [2] Tryd.func80 rfl rfl rfl rfl (by first | trivial | (simp; first | done | fail) | exact ⟨trivial, hbel _⟩) (by first | trivial | (simp; first | done | fail) | exact ⟨trivial, hbel _⟩) (by exact Nat.le_of_ble_eq_true rfl) ?_
  intro A hG hnA hAB
  unfold start
  refine WP.rs hG ?_
  refine Ch.asg rfl rfl ?_
  refine Ch.nil ?_
  refine WP.rs hG ?_
  refine Ch.callP (first_fc hf) gdN (by repeat (first | exact EvL.nil | (apply EvL.cons; exact rfl))) (by exact trivial) (by rfl) rfl ?_
  refine Ch.asg rfl rfl ?_
  refine Ch.nil ?_
  have hp := pad_len l.length
  refine WP.rs hG ?_
  refine Ch.mv rfl rfl ?_
  refine Ch.mv rfl rfl ?_
  refine Ch.pu gdN (by exact ⟨rfl, trivial⟩) (OpS.lenS rfl) trivial rfl ?_
  refine Ch.callP (rpad_fc l.length (by omega)) gdN (by repeat (first | exact EvL.nil | (apply EvL.cons; exact rfl))) (by exact (And.intro (by first | exact .rfl _ | exact .untip _ _ _ | exact .nil | exact .func _ | exact AV.wk.sh (renL_s _ _) | exact AV.wk.sh (by simp; first | done | fail)) trivial)) (by rfl) rfl ?_
  refine Ch.pu gdN (by exact ⟨rfl, rfl, trivial⟩) (OpS.strAdd (by omega)) trivial rfl ?_
  refine Ch.asg rfl rfl ?_
  refine Ch.nil ?_
  refine WP.seq ?_
  obtain ⟨q, hq, hs⟩ := sum_eat l
  have hpl : (l ++ pad l.length).length ≤ 9223372036854775100 := by rw [List.length_append]; omega
  generalize l ++ pad l.length = X at *
  refine WP.rs hG ?_
  refine Ch.asg rfl rfl ?_
  refine Ch.nil ?_
  refine WP.block ?_
  refine WP.loop (fun k σ => ∃ m ii : Nat, (ii = 64 * m ∧ m + k = q) ∧ σ = ⟨27, ls [(3, sA (eat m first X).text), (4, sA X), (5, .v (.int .i64 (ii : Int)))], lh [], blt 0⟩) (q) (Ent.of [] ?_ ?_ ?_ ?_).se ⟨0, 0, by omega, rfl⟩ ?_
  · exact (fun i hi => by rw [hnA] at hi; simp only [List.length_cons, List.length_nil] at hi ⊢; first | exact absurd hi (Nat.not_lt_zero _) | (revert i; decide))
  · (repeat (first | exact trivial | (refine And.intro ⟨(by first | trivial | (simp; first | done | fail) | exact ⟨trivial, hbel _⟩), _, rfl, (by first | exact .rfl _ | exact .nil | exact .of_eq (by simp; first | done | fail) | exact AV.wk.sh (by simp; first | done | fail) | exact .untip _ _ _)⟩ ?_)))
  · (repeat (first | exact trivial | (refine And.intro ⟨rfl, (by first | trivial | (simp; first | done | fail) | exact ⟨trivial, hbel _⟩), (by first | rfl | (simp; first | done | fail))⟩ ?_)))
  · simp [rn]
  · rintro k σ ⟨m, ii, ⟨hi, hm⟩, rfl⟩
    have hc := eat_next m first X (by omega)
    rw [← hi, ← readSt_text (eat m first X)] at hc
    refine WP.seq ?_
    refine WP.rs hG ?_
    refine Ch.mv rfl rfl ?_
    refine Ch.pu gdN (by exact ⟨rfl, rfl, trivial⟩) (OpS.int rfl (by first | exact wr64 (by omega) | exact rfl)) trivial rfl ?_
    refine Ch.mv rfl rfl ?_
    refine Ch.pu gdN (by exact ⟨rfl, trivial⟩) (OpS.lenS rfl) trivial rfl ?_
    refine Ch.pu gdN (by exact ⟨rfl, rfl, trivial⟩) (OpS.int rfl (by first | exact wr64 (by omega) | exact rfl)) trivial rfl ?_
    refine Ch.nil ?_
    refine WP.cond rfl ?_ ?_
    · intro ht
      have ht' := of_decide_eq_true ht
      have hsub : ii + 64 - ii = 64 := by omega
      refine WP.skip ?_
      refine WP.seq ?_
      refine WP.block ?_
      refine WP.rg hG ?_
      refine Ch.mv rfl rfl ?_
      refine Ch.mv rfl rfl ?_
      refine Ch.mv rfl rfl ?_
      refine Ch.mv rfl rfl ?_
      refine Ch.pu gdN (by exact ⟨rfl, rfl, trivial⟩) (OpS.int rfl (by first | exact wr64 (by omega) | exact rfl)) trivial rfl ?_
      refine Ch.pu gdN (by exact ⟨rfl, rfl, rfl, trivial⟩) (OpS.sliceS rfl (by first | with_reducible exact Int.toNat_natCast _ | with_reducible exact tnLit _ _ | with_reducible exact tnLitA _ _ | with_reducible exact tnL _ | with_reducible exact tnA _ _ | with_reducible exact tnM _ _ | with_reducible exact tnMA _ _ _ | exact rfl) (by first | with_reducible exact Int.toNat_natCast _ | with_reducible exact tnLit _ _ | with_reducible exact tnLitA _ _ | with_reducible exact tnL _ | with_reducible exact tnA _ _ | with_reducible exact tnM _ _ | with_reducible exact tnMA _ _ _ | exact rfl) (by omega) (by omega) (by omega)) trivial rfl ?_
      refine Ch.callP (rblock_fc hk (eat m first X).text ((X.drop ii).take (ii + 64 - ii)) (St.text_length _) (by simp; omega)) gdN (by repeat (first | exact EvL.nil | (apply EvL.cons; exact rfl))) (by exact (And.intro (by first | exact .rfl _ | exact .untip _ _ _ | exact .nil | exact .func _ | exact AV.wk.sh (renL_s _ _) | exact AV.wk.sh (by simp; first | done | fail)) (And.intro (by first | exact .rfl _ | exact .untip _ _ _ | exact .nil | exact .func _ | exact AV.wk.sh (renL_s _ _) | exact AV.wk.sh (by simp; first | done | fail)) trivial))) (by rfl) rfl ?_
      refine Ch.asg rfl rfl ?_
      refine Ch.nil ?_
      refine WP.rg hG ?_
      refine Ch.mv rfl rfl ?_
      refine Ch.pu gdN (by exact ⟨rfl, rfl, trivial⟩) (OpS.int rfl (by first | exact wr64 (by omega) | exact rfl)) trivial rfl ?_
      refine Ch.asg rfl rfl ?_
      refine Ch.nil ?_
      refine ⟨k - 1, _, by omega, (Ent.of [] ?_ ?_ ?_ ?_).se, m + 1, ii + 64, by omega, rfl⟩
      · exact (fun i hi => by rw [hnA] at hi; simp only [List.length_cons, List.length_nil] at hi ⊢; first | exact absurd hi (Nat.not_lt_zero _) | (revert i; decide))
      · (repeat (first | exact trivial | (refine And.intro ⟨(by first | trivial | (simp; first | done | fail) | exact ⟨trivial, hbel _⟩), _, rfl, (by first | exact .rfl _ | exact .nil | exact .of_eq (by simp [hc]; first | done | fail) | exact AV.wk.sh (by simp [hc]; first | done | fail) | exact .untip _ _ _)⟩ ?_)))
      · (repeat (first | exact trivial | (refine And.intro ⟨rfl, (by first | trivial | (simp; first | done | fail) | exact ⟨trivial, hbel _⟩), (by first | rfl | (simp [hc]; first | done | fail))⟩ ?_)))
      · simp [rn]
    · intro ht
      have ht' := of_decide_eq_false ht
      obtain rfl : m = q := by omega
      refine WP.exit ?_
      refine WP.rs hG ?_
      refine Ch.mv rfl rfl ?_
      refine Ch.asg rfl rfl ?_
      refine Ch.nil ?_
      exact WP.ret (Ret.one rfl (.of_eq (by simp [hs])) trivial hnA)

theorem be4_nat (n : Nat) : [UInt8.ofNat (n / 2 ^ 24), UInt8.ofNat (n / 2 ^ 16), UInt8.ofNat (n / 2 ^ 8), UInt8.ofNat n] = be4 (UInt32.ofNat n) := by
  simp only [be4, List.cons.injEq, and_true]
  refine ⟨?_, ?_, ?_, ?_⟩ <;> (apply UInt8.toNat_inj.1; simp [shr32] <;> omega)
theorem rinput_fc {G : List (Nat × Array Value)} (d : UInt8) (ps : List (List UInt8)) (hL : (input d ps).length ≤ 140737488355328) :
    FC Tryd.prog G 81 [.v (.int .u8 (U8 d)), .sl none ps.length (ps.map sA)] [] (sA (input d ps)) [] := by
  refine FC.of_wp [4] Tryd.func81 rfl rfl rfl rfl (by first | trivial | (simp; first | done | fail) | exact ⟨trivial, hbel _⟩) (by first | trivial | (simp; first | done | fail) | exact ⟨trivial, hbel _⟩) (by exact Nat.le_of_ble_eq_true rfl) ?_
  intro A hG hnA hAB
  unfold start
  refine WP.rs hG ?_
  refine Ch.asg rfl rfl ?_
  refine Ch.nil ?_
  refine WP.rs hG ?_
  refine Ch.mv rfl rfl ?_
  refine Ch.pup gdN (by repeat (first | exact EvP.nil | (apply EvP.cons; exact rfl))) (OpS.slice1 rfl rfl rfl rfl rfl rfl (by rfl) rfl (by rfl)) rfl ?_
  refine Ch.pu gdN (by exact ⟨rfl, trivial⟩) (OpS.b2s (l := [d]) rfl rfl rfl rfl) trivial rfl ?_
  refine Ch.asg rfl rfl ?_
  refine Ch.nil ?_
  refine WP.seq ?_
  have hmany := input_many d ps
  refine WP.rs hG ?_
  refine Ch.asg rfl rfl ?_
  refine Ch.nil ?_
  refine WP.block ?_
  refine WP.loop (fun k σ => ∃ m : Nat, m + k = ps.length ∧ σ = ⟨43, ls [(1, .sl none ps.length (ps.map sA)), (5, sA (input d (ps.take m))), (6, .v (.int .i64 (m : Int)))], lh [], blt 0⟩) (ps.length) (Ent.of [] ?_ ?_ ?_ ?_).se ⟨0, by omega, rfl⟩ ?_
  · exact (fun i hi => by rw [hnA] at hi; simp only [List.length_cons, List.length_nil] at hi ⊢; first | exact absurd hi (Nat.not_lt_zero _) | (revert i; decide))
  · (repeat (first | exact trivial | (refine And.intro ⟨(by first | trivial | (simp; first | done | fail) | exact ⟨trivial, hbel _⟩), _, rfl, (by first | exact .rfl _ | exact .nil | exact .of_eq (by simp; first | done | fail) | exact AV.wk.sh (by simp; first | done | fail) | exact .untip _ _ _)⟩ ?_)))
  · (repeat (first | exact trivial | (refine And.intro ⟨rfl, (by first | trivial | (simp; first | done | fail) | exact ⟨trivial, hbel _⟩), (by first | rfl | (simp; first | done | fail))⟩ ?_)))
  · simp [rn]
  · rintro k σ ⟨m, hm, rfl⟩
    refine WP.seq ?_
    refine WP.rs hG ?_
    refine Ch.mv rfl rfl ?_
    refine Ch.mv rfl rfl ?_
    refine Ch.pu gdN (by exact ⟨rfl, trivial⟩) (OpS.len rfl) trivial rfl ?_
    refine Ch.pu gdN (by exact ⟨rfl, rfl, trivial⟩) (OpS.int rfl (by first | exact wr64 (by omega) | exact rfl)) trivial rfl ?_
    refine Ch.nil ?_
    refine WP.cond rfl ?_ ?_
    · intro ht
      have ht' := of_decide_eq_true ht
      have hc : input d (ps.take (m + 1)) = input d (ps.take m) ++ be4 (UInt32.ofNat (el ps m).length) ++ el ps m := input_take d ps m (by omega)
      rw [← be4_nat] at hc
      have hle := input_le d ps (m + 1)
      have hlen : (input d (ps.take m)).length + 4 + (el ps m).length ≤ 140737488355328 := by
        rw [hc] at hle
        simp only [List.length_append, List.length_cons, List.length_nil] at hle
        omega
      refine WP.skip ?_
      refine WP.seq ?_
      refine WP.block ?_
      refine WP.rs hG ?_
      refine Ch.mv rfl rfl ?_
      refine Ch.mv rfl rfl ?_
      refine Ch.pu gdN (by exact ⟨rfl, rfl, trivial⟩) (OpS.indexM rfl rfl rfl (by first | with_reducible exact Int.toNat_natCast _ | with_reducible exact tnLit _ _ | with_reducible exact tnLitA _ _ | with_reducible exact tnL _ | with_reducible exact tnA _ _ | with_reducible exact tnM _ _ | with_reducible exact tnMA _ _ _ | exact rfl) (by omega) (by omega) (by first | rfl | (simp; done) | omega)) trivial rfl ?_
      refine Ch.pu gdN (by exact ⟨rfl, trivial⟩) (OpS.loadS rfl rfl) trivial rfl ?_
      refine Ch.pu gdN (by exact ⟨rfl, trivial⟩) (OpS.lenS rfl) trivial rfl ?_
      refine Ch.asg rfl rfl ?_
      refine Ch.nil ?_
      refine WP.rgD (by kernel_rfl) hG ?_
      refine Ch.mv rfl rfl ?_
      refine Ch.mv rfl rfl ?_
      refine Ch.pu gdN (by exact ⟨rfl, rfl, trivial⟩) (OpS.shrN (j := 24) rfl (by decide)) (by first | exact trivial | exact ⟨rfl, trivial⟩) rfl ?_
      refine Ch.pu gdN (by exact ⟨rfl, trivial⟩) (OpS.conv rfl rfl (by first | exact cv_u32_u8 _ | exact cv_u64_u8 _ | exact cv_i64_u8 _ | exact cv_u8_u32 _ | exact cv_u8_u64 _ | exact cv_u32_u64 _ | exact cv_u64_u32 _ | exact cv_u8_u8 _ | exact cv_u32_u32 _ | exact cv_u64_u64 _ | exact wr64 (by omega) | exact cv_u64_nat _ | exact cv_u32_nat _ | exact cv_u8_nat _ | exact rfl)) trivial rfl ?_
      refine Ch.mv rfl rfl ?_
      refine Ch.pu gdN (by exact ⟨rfl, rfl, trivial⟩) (OpS.shrN (j := 16) rfl (by decide)) (by first | exact trivial | exact ⟨rfl, trivial⟩) rfl ?_
      refine Ch.pu gdN (by exact ⟨rfl, trivial⟩) (OpS.conv rfl rfl (by first | exact cv_u32_u8 _ | exact cv_u64_u8 _ | exact cv_i64_u8 _ | exact cv_u8_u32 _ | exact cv_u8_u64 _ | exact cv_u32_u64 _ | exact cv_u64_u32 _ | exact cv_u8_u8 _ | exact cv_u32_u32 _ | exact cv_u64_u64 _ | exact wr64 (by omega) | exact cv_u64_nat _ | exact cv_u32_nat _ | exact cv_u8_nat _ | exact rfl)) trivial rfl ?_
      refine Ch.mv rfl rfl ?_
      refine Ch.pu gdN (by exact ⟨rfl, rfl, trivial⟩) (OpS.shrN (j := 8) rfl (by decide)) (by first | exact trivial | exact ⟨rfl, trivial⟩) rfl ?_
      refine Ch.pu gdN (by exact ⟨rfl, trivial⟩) (OpS.conv rfl rfl (by first | exact cv_u32_u8 _ | exact cv_u64_u8 _ | exact cv_i64_u8 _ | exact cv_u8_u32 _ | exact cv_u8_u64 _ | exact cv_u32_u64 _ | exact cv_u64_u32 _ | exact cv_u8_u8 _ | exact cv_u32_u32 _ | exact cv_u64_u64 _ | exact wr64 (by omega) | exact cv_u64_nat _ | exact cv_u32_nat _ | exact cv_u8_nat _ | exact rfl)) trivial rfl ?_
      refine Ch.mv rfl rfl ?_
      refine Ch.pu gdN (by exact ⟨rfl, trivial⟩) (OpS.conv rfl rfl (by first | exact cv_u32_u8 _ | exact cv_u64_u8 _ | exact cv_i64_u8 _ | exact cv_u8_u32 _ | exact cv_u8_u64 _ | exact cv_u32_u64 _ | exact cv_u64_u32 _ | exact cv_u8_u8 _ | exact cv_u32_u32 _ | exact cv_u64_u64 _ | exact wr64 (by omega) | exact cv_u64_nat _ | exact cv_u32_nat _ | exact cv_u8_nat _ | exact rfl)) trivial rfl ?_
      refine Ch.pup gdN (by repeat (first | exact EvP.nil | (apply EvP.cons; exact rfl))) (OpS.slice1 rfl rfl rfl rfl rfl rfl (by rfl) rfl (by rfl)) rfl ?_
      refine Ch.pu gdN (by exact ⟨rfl, trivial⟩) (OpS.b2s (l := [UInt8.ofNat ((el ps m).length / 2 ^ 24), UInt8.ofNat ((el ps m).length / 2 ^ 16), UInt8.ofNat ((el ps m).length / 2 ^ 8), UInt8.ofNat (el ps m).length]) rfl rfl rfl rfl) trivial rfl ?_
      refine Ch.pu gdN (by exact ⟨rfl, rfl, trivial⟩) (OpS.strAdd (by simp; omega)) trivial rfl ?_
      refine Ch.mv rfl rfl ?_
      refine Ch.mv rfl rfl ?_
      refine Ch.pu gdN (by exact ⟨rfl, rfl, trivial⟩) (OpS.indexM rfl rfl rfl (by first | with_reducible exact Int.toNat_natCast _ | with_reducible exact tnLit _ _ | with_reducible exact tnLitA _ _ | with_reducible exact tnL _ | with_reducible exact tnA _ _ | with_reducible exact tnM _ _ | with_reducible exact tnMA _ _ _ | exact rfl) (by omega) (by omega) (by first | rfl | (simp; done) | omega)) trivial rfl ?_
      refine Ch.pu gdN (by exact ⟨rfl, trivial⟩) (OpS.loadS rfl rfl) trivial rfl ?_
      refine Ch.pu gdN (by exact ⟨rfl, rfl, trivial⟩) (OpS.strAdd (by simp; omega)) trivial rfl ?_
      refine Ch.asg rfl rfl ?_
      refine Ch.nilD ?_ (by kernel_rfl)
      refine WP.rg hG ?_
      refine Ch.mv rfl rfl ?_
      refine Ch.pu gdN (by exact ⟨rfl, rfl, trivial⟩) (OpS.int rfl (by first | exact wr64 (by omega) | exact rfl)) trivial rfl ?_
      refine Ch.asg rfl rfl ?_
      refine Ch.nil ?_
      refine ⟨k - 1, _, by omega, (Ent.of [] ?_ ?_ ?_ ?_).se, m + 1, by omega, rfl⟩
      · exact (fun i hi => by rw [hnA] at hi; simp only [List.length_cons, List.length_nil] at hi ⊢; first | exact absurd hi (Nat.not_lt_zero _) | (revert i; decide))
      · (repeat (first | exact trivial | (refine And.intro ⟨(by first | trivial | (simp; first | done | fail) | exact ⟨trivial, hbel _⟩), _, rfl, (by first | exact .rfl _ | exact .nil | exact .of_eq (by simp [hc]; first | done | fail) | exact AV.wk.sh (by simp [hc]; first | done | fail) | exact .untip _ _ _)⟩ ?_)))
      · (repeat (first | exact trivial | (refine And.intro ⟨rfl, (by first | trivial | (simp; first | done | fail) | exact ⟨trivial, hbel _⟩), (by first | rfl | (simp [hc]; first | done | fail))⟩ ?_)))
      · simp [rn]
    · intro ht
      have ht' := of_decide_eq_false ht
      obtain rfl : m = ps.length := by omega
      refine WP.exit ?_
      refine WP.rs hG ?_
      refine Ch.mv rfl rfl ?_
      refine Ch.asg rfl rfl ?_
      refine Ch.nil ?_
      exact WP.ret (Ret.one rfl (.of_eq (by simp)) trivial hnA)
theorem rtag_fc {G : List (Nat × Array Value)} (hk : (3, kArr) ∈ G) (hf : (2, first.cells) ∈ G) (d : UInt8) (ps : List (List UInt8)) (hL : (input d ps).length ≤ 140737488355328) :
    FC Tryd.prog G 57 [.v (.int .u8 (U8 d)), .sl none ps.length (ps.map sA)] [] (sA (tag d ps)) [] := by
  refine FC.of_wp [4] Tryd.func57 rfl rfl rfl rfl (by first | trivial | (simp; first | done | fail) | exact ⟨trivial, hbel _⟩) (by first | trivial | (simp; first | done | fail) | exact ⟨trivial, hbel _⟩) (by exact Nat.le_of_ble_eq_true rfl) ?_
  intro A hG hnA hAB
  unfold start
  refine WP.rs hG ?_
  refine Ch.asg rfl rfl ?_
  refine Ch.nil ?_
  refine WP.rs hG ?_
  refine Ch.mv rfl rfl ?_
  refine Ch.mv rfl rfl ?_
  refine Ch.callP (rinput_fc d ps hL) gdN (by repeat (first | exact EvL.nil | (apply EvL.cons; exact rfl))) (by exact (And.intro (by first | exact .rfl _ | exact .untip _ _ _ | exact .nil | exact .func _ | exact AV.wk.sh (renL_s _ _) | exact AV.wk.sh (by simp; first | done | fail)) (And.intro (by first | exact .rfl _ | exact .untip _ _ _ | exact .nil | exact .func _ | exact AV.wk.sh (renL_s _ _) | exact AV.wk.sh (by simp; first | done | fail)) trivial))) (by rfl) rfl ?_
  refine Ch.callP (rsum_fc hk hf (input d ps) (by omega)) gdN (by repeat (first | exact EvL.nil | (apply EvL.cons; exact rfl))) (by exact (And.intro (by first | exact .rfl _ | exact .untip _ _ _ | exact .nil | exact .func _ | exact AV.wk.sh (renL_s _ _) | exact AV.wk.sh (by simp; first | done | fail)) trivial)) (by rfl) rfl ?_
  refine Ch.asg rfl rfl ?_
  refine Ch.nil ?_
  refine WP.ret (Ret.one rfl (by first | exact .rfl _ | exact .nil | exact .of_eq (by simp; first | done | fail) | exact AV.wk.sh (by simp; first | done | fail) | exact .untip _ _ _) (by first | trivial | simp [AV.bel]) hnA)
end Go.Proofs.YtcojfnjpcpochaaDoor.E
end
section
namespace Go.Proofs.YtcojfnjpcpochaaDoor.E
open Go Go.RowKit Go.Proofs.YtcojfnjpcpochaaDoor.V
theorem VRel.part {N : Nat → Nat → Prop} {ρ : Env} {w : World} {o : Option Nat} {n : Nat} {cs : List AV} {a : Option Addr} {n' cap : Nat} (h : VRel N ρ w (.sl o n cs) (.slice a n' cap)) {l m : Nat} (sz : Nat) (h1 : l ≤ m) (h2 : m ≤ n) :
    VRel N ρ w (.sl none (m - l) ((cs.drop (l * sz)).take ((m - l) * sz))) (sliced a l m cap sz) := by
  cases h with
  | sl o n cs a cap vals hc hcs ho hn hz hm =>
    unfold sliced
    by_cases hl : cap = l
    · have h0 : m - l = 0 := by omega
      rw [h0, Nat.zero_mul, List.take_zero]
      refine .sl _ _ _ _ _ vals (fun i hi => by cases hi) (fun i c hc' => by simp at hc') (fun k hk => by cases hk) (by omega) (fun _ => rfl) (by omega)
    · rw [if_neg hl]
      refine .sl _ _ _ _ _ (fun i => vals (l * sz + i)) (fun i hi => ?_) (fun i c hc' => ?_) (fun k hk => by cases hk) (by omega) (fun ha => ?_) (by omega)
      · have hi' : l * sz + i < cs.length := by simp at hi; omega
        obtain ⟨k1, b, off, rfl, k2, k3⟩ := hc _ hi'
        refine ⟨k1, b, off + l * sz, by simp [Addr.add_mid], ?_, ?_⟩
        · rw [Nat.add_assoc]; exact k2
        · rw [Nat.add_assoc]; exact k3
      · rw [List.getElem?_take] at hc'
        split at hc'
        · rw [List.getElem?_drop] at hc'
          exact hcs _ _ hc'
        · cases hc'
      · cases a with
        | none => have := hz rfl; omega
        | some a => cases ha
section
variable {P : Program} {G : List (Nat × Array Value)} {dst : Option Tmp} {ty : TypeId} {pos : String} {aft : Array Edge} {gd : Option (Nat × Bool)}
theorem natb_eq (a b : Nat) : Value.bool (((a : Int)) == ((b : Nat) : Int)) = Value.bool (decide (a = b)) := by
  congr 1
  rw [Bool.eq_iff_iff]
  simp
  omega
theorem OpS.maxI {x y : Operand} {ats : Array TypeId} {k k' : IntKind} {a b c : Int} (hc : (if b > a then b else a) = c) :
    OpS P G ⟨dst, .call ⟨.builtin .max, #[x, y], ats⟩, ty, pos, aft, gd⟩ [(x, .v (.int k a)), (y, .v (.int k' b))] [] ⟨some (.v (.int k c)), [], []⟩ := by
  subst hc
  refine OpS.still fun A ρ σ a' w _ h _ hs => ⟨_, ?_, .v _⟩
  obtain ⟨cs, he⟩ := exec_b2 a'.eval .max x y ats (dst := dst) (ty := ty) (pos := pos) (aft := aft) (gd := gd)
  rw [he]
  refine runv (s := Builtin.max_ ats ty #[a'.eval x, a'.eval y]) ?_
  rw [(hs.ev h.1).raw, (hs.ev h.2.1).raw]
  exact run_max_int2 w ats ty k k' a b
theorem bits_nat (f : Nat → Nat → Nat) (g : BitVec 64 → BitVec 64 → BitVec 64) (hg : ∀ x y, (g x y).toNat = f x.toNat y.toNat) (hf : ∀ a b : Nat, a < 2 ^ 63 → b < 2 ^ 63 → f a b < 2 ^ 63) (a b : Nat) (ha : a < 2 ^ 63) (hb : b < 2 ^ 63) :
    IntKind.i64.wrap ((g (BitVec.ofInt 64 (a : Int)) (BitVec.ofInt 64 (b : Int))).toNat : Int) = ((f a b : Nat) : Int) := by
  have e : ∀ n : Nat, n < 2 ^ 63 → (BitVec.ofInt 64 (n : Int)).toNat = n := fun n hn => by
    rw [BitVec.toNat_ofInt]
    omega
  rw [hg, e a ha, e b hb]
  have := wr64 (n := ((f a b : Nat) : Int)) (by have := hf a b ha hb; omega)
  injection this
theorem OpS.xorN {t t' : TypeId} {x y : Operand} {a b : Nat} (ha : a < 2 ^ 63) (hb : b < 2 ^ 63) :
    OpS P G ⟨dst, .binOp .xor t x y t', ty, pos, aft, gd⟩ [(x, .v (.int .i64 (a : Int))), (y, .v (.int .i64 (b : Int)))] [] ⟨some (.v (.int .i64 ((a ^^^ b : Nat) : Int))), [], []⟩ :=
  OpS.binR rfl fun w => by
    show (Op.intBits .xor .i64 (a : Int) (b : Int)).run P w = _
    unfold Op.intBits
    show Result.ok (Value.int .i64 (IntKind.i64.wrap ((BitVec.ofInt 64 (a : Int) ^^^ BitVec.ofInt 64 (b : Int)).toNat : Int))) w = _
    rw [bits_nat (· ^^^ ·) (· ^^^ ·) (fun x y => BitVec.toNat_xor x y) (fun a b ha hb => Nat.xor_lt_two_pow ha hb) a b ha hb]
theorem OpS.andN {t t' : TypeId} {x y : Operand} {a b : Nat} (ha : a < 2 ^ 63) (hb : b < 2 ^ 63) :
    OpS P G ⟨dst, .binOp .and t x y t', ty, pos, aft, gd⟩ [(x, .v (.int .i64 (a : Int))), (y, .v (.int .i64 (b : Int)))] [] ⟨some (.v (.int .i64 ((a &&& b : Nat) : Int))), [], []⟩ :=
  OpS.binR rfl fun w => by
    show (Op.intBits .and .i64 (a : Int) (b : Int)).run P w = _
    unfold Op.intBits
    show Result.ok (Value.int .i64 (IntKind.i64.wrap ((BitVec.ofInt 64 (a : Int) &&& BitVec.ofInt 64 (b : Int)).toNat : Int))) w = _
    rw [bits_nat (· &&& ·) (· &&& ·) (fun x y => BitVec.toNat_and x y) (fun a b ha hb => Nat.and_lt_two_pow a hb) a b ha hb]
theorem OpS.strEqB {t t' : TypeId} {x y : Operand} {a b : List UInt8} {c : Bool} (h : decide (a = b) = c) :
    OpS P G ⟨dst, .binOp .eql t x y t', ty, pos, aft, gd⟩ [(x, .v (.string (B a))), (y, .v (.string (B b)))] [] ⟨some (.v (.bool c)), [], []⟩ := by
  subst h
  exact OpS.strEql
theorem OpS.strNeB {t t' : TypeId} {x y : Operand} {a b : List UInt8} {c : Bool} (h : (!decide (a = b)) = c) :
    OpS P G ⟨dst, .binOp .neq t x y t', ty, pos, aft, gd⟩ [(x, .v (.string (B a))), (y, .v (.string (B b)))] [] ⟨some (.v (.bool c)), [], []⟩ := by
  subst h
  exact OpS.strNeq
theorem OpS.makeTip {t E : TypeId} {inf : TypeInfo} {z : Value} {x y : Operand} {k k' : IntKind} {m c : Int} {n sz bb : Nat} (id : Nat) (hu : P.underlying t = some (.slice E)) (hi : P.info? E = some inf) (hz : inf.zero = some z) (hsz : inf.size = sz) (hm : m = 0) (hc : c = (n : Int))
    (hbb : inf.bytes = bb) (hb : n * bb ≤ 281474976710656) (hn : n ≤ maxLen) :
    OpS P G ⟨dst, .makeSlice t x y, ty, pos, aft, gd⟩ [(x, .v (.int k m)), (y, .v (.int k' c))] [] ⟨some (.sl (some id) 0 []), [(id, some (.tip E sz 0))], [id]⟩ := by
  subst hm; subst hc; subst hsz; subst hbb
  refine OpS.act fun A ρ σ a w _ h hp hnu hs => ?_
  have hn' : ((n : Int)) ≤ 9223372036854775807 := by unfold maxLen at hn; omega
  have hb' : (inf.bytes : Int) * (n : Int) ≤ 281474976710656 := by
    have h : ((n * inf.bytes : Nat) : Int) ≤ 281474976710656 := by omega
    rw [Int.mul_comm]
    rwa [Int.natCast_mul] at h
  have hr := run_make (P := P) w t E inf z hu hi hz k k' 0 (n : Int) (by omega) (by omega) hb' hn'
  simp only [Int.toNat_natCast] at hr
  let ρ' : Env := ⟨ρ.blk, upd ρ.tip id (some (.slice (some ⟨w.heap.size, 0, none⟩) 0 n))⟩
  have hid : ρ'.tip id = some (.slice (some ⟨w.heap.size, 0, none⟩) 0 n) := upd_same _ _ _
  obtain ⟨m1, m2⟩ := hs.mem.extend (ρ' := ρ') (ob := .tip E inf.size 0) (w' := w.alloc (.cells (madeCells z.cells (n * inf.size)) E)) hnu.1 (fun i hi => ⟨rfl, upd_ne _ _ hi⟩) rfl rfl rfl (by simp) (fun k hk => Below.heap_alloc w _ k hk)
    (fun b ⟨cap, hb⟩ => by rw [hid] at hb; cases hb; exact Nat.le_refl _) (fun _ => .inr ⟨w.heap.size, n, _, hid, heap_alloc_new w _, Nat.zero_le _, hn, by simp [madeCells]⟩)
  refine ⟨_, _, ρ', .inl ?_, m1, m2, fun v hv => by
    cases hv
    exact .sl _ _ _ _ n (fun _ => undef) (fun i hi => by cases hi) (fun i c hc => by simp at hc) (fun k hk => by cases hk; exact hid) (Nat.zero_le _) (fun h => by cases h) hn⟩
  refine runv (s := Instr.makeSlice t (a.eval x) (a.eval y)) ?_
  rw [(hs.ev h.1).raw, (hs.ev h.2.1).raw]
  exact hr
theorem OpS.callD {f : FuncId} {args : List AV} {H H' : List (Option AO)} {res : AV} (F : FC P G f args H res H') (old : List Nat) (base : Nat) (hol : old.length = H.length) (hnd : old.Nodup) (hlt : ∀ x ∈ old, x < base)
    {c : Operand} {xs : List Operand} {ys : List AV} (ho : xs.length = ys.length) (hwk : WkL ys (args.map (AV.ren (pi old base)))) {ats : Array TypeId} :
    OpS P G ⟨dst, .call ⟨.value c, xs.toArray, ats⟩, ty, pos, aft, gd⟩ ((c :: xs).zip (.v (.func (.func f) #[] #[]) :: ys)) (hpl (pi old base) old H) (callEff old base res H.length H') := by
  constructor
  intro A ρ σ a w K Q hG h1 h2 h3 hd hs hK
  obtain ⟨fn, cd, hf, hname, hb⟩ := F.enter
  have hcv : a.eval c = .func (.func f) #[] #[] := (hs.ev h1.1).raw
  have hrun : (execOp a.eval ⟨dst, .call ⟨.value c, xs.toArray, ats⟩, ty, pos, aft, gd⟩).run P w = .ok (.enter f (xs.map a.eval).toArray) w := by
    have := run_enter hf hname hb (xs.map a.eval).toArray w
    show (do let d ← Deferred.ofValue (a.eval c) (xs.toArray.map a.eval); invoke d.target d.args : Sem Next).run P w = _
    rw [hcv]
    show (callFunc f (#[] ++ xs.toArray.map a.eval ++ #[])).run P w = _
    simpa using this
  unfold Oper.wp
  rw [hrun, Oper.upon_enter]
  refine (call_sat F hol hnd hlt hG hs h2 h3 hd (vs := (xs.map a.eval).toArray) (ys := ys) (by simp [ho]) ?_ hwk).mono ?_
  · intro i y x hy hx
    rw [List.getElem?_toArray, List.getElem?_map] at hx
    cases hxi : xs[i]? with
    | none => rw [hxi] at hx; cases hx
    | some o => rw [hxi] at hx; cases hx; exact ev_ops hs h1.2 i o y hxi hy
  · rintro e w' ⟨v, ρ', rfl, hs'⟩
    exact hK _ _ ρ' hs'
end
section
variable {P : Program} {G : List (Nat × Array Value)} {l r : List Oper} {K : AS → Prop} {n : Nat} {s : Nat → Option AV} {h : Nat → Option AO} {u : Nat → Bool} {d : Tmp} {ty : TypeId} {pos : String} {aft : Array Edge} {gd : Option (Nat × Bool)} {D : Bool} {acc : List St}
theorem Ch.callS {f : FuncId} {args : List AV} {m : Nat} {cs : List AV} (F : FC P G f args [] (.sl none m cs) []) {xs : List Operand} {ys : List AV} {ats : Array TypeId}
    (hg : GdOk l.toArray ⟨some d, .call ⟨.value (.func f), xs.toArray, ats⟩, ty, pos, aft, gd⟩ ⟨n, s, h, u⟩ true) (hev : EvL ⟨n, s, h, u⟩ xs ys) (hwk : WkL ys (args.map (AV.ren (pi [] 0)))) (hc : AV.renL (pi [] 0) cs = cs) (hd : Nat.blt d n = true)
    (hr : Ch P G l D K (⟨true, xs.zip ys, [], ⟨some (.sl none m cs), [], []⟩⟩ :: acc) r ⟨n, upd s d (some (.sl none m cs)), h, u⟩) :
    Ch P G l D K acc (⟨some d, .call ⟨.value (.func f), xs.toArray, ats⟩, ty, pos, aft, gd⟩ :: r) ⟨n, s, h, u⟩ :=
  Ch.callP F hg hev hwk (res' := .sl none m cs) (by simp [AV.ren, hc]) hd hr
theorem Ch.callD {f : FuncId} {args : List AV} {res : AV} (F : FC P G f args [] res []) {c : Operand} {xs : List Operand} {ys : List AV} {ats : Array TypeId}
    (hg : GdOk l.toArray ⟨some d, .call ⟨.value c, xs.toArray, ats⟩, ty, pos, aft, gd⟩ ⟨n, s, h, u⟩ true) (hev : EvL ⟨n, s, h, u⟩ (c :: xs) (.v (.func (.func f) #[] #[]) :: ys)) (hwk : WkL ys (args.map (AV.ren (pi [] 0)))) {res' : AV} (hres : res.ren (pi [] 0) = res') (hd : Nat.blt d n = true)
    (hr : Ch P G l D K (⟨true, (c :: xs).zip (.v (.func (.func f) #[] #[]) :: ys), [], ⟨some res', [], []⟩⟩ :: acc) r ⟨n, upd s d (some res'), h, u⟩) :
    Ch P G l D K acc (⟨some d, .call ⟨.value c, xs.toArray, ats⟩, ty, pos, aft, gd⟩ :: r) ⟨n, s, h, u⟩ := by
  subst hres
  have hlen : xs.length = ys.length := by have := hev.ok.2; simpa using this
  exact Ch.cons (st := ⟨true, (c :: xs).zip (.v (.func (.func f) #[] #[]) :: ys), [], ⟨some (res.ren (pi [] 0)), [], []⟩⟩) ⟨hg, fun _ => ⟨OpS.callD F [] 0 rfl (by simp) (by simp) hlen hwk, hev.ok.1, trivial, trivial, fun t ht => by cases ht; exact Nat.blt_eq.mp hd⟩, fun h => nomatch h⟩ hr
end
theorem belL_append (u : Nat → Bool) : ∀ a b : List AV, AV.belL u (a ++ b) ↔ AV.belL u a ∧ AV.belL u b
  | [], b => by simp [AV.belL]
  | x :: a, b => by
    show AV.bel u x ∧ AV.belL u (a ++ b) ↔ (AV.bel u x ∧ AV.belL u a) ∧ AV.belL u b
    rw [belL_append u a b, and_assoc]
attribute [simp] belL_append
theorem WP.seqJ {P : Program} {A : Amb} {Q : Exit → AS → Prop} {σ : AS} {x y : Code} (J : AS → Prop) (h1 : WP P A x (thn (fun σ => ∃ σ', SEnt A σ σ' ∧ J σ') Q) σ) (h2 : ∀ σ, J σ → WP P A y Q σ) : WP P A (.seq x y) Q σ :=
  WP.seq (h1.mono fun e σ' h => by
    cases e with
    | normal => obtain ⟨σ2, hs, hj⟩ := h; exact WP.from hs (h2 σ2 hj)
    | _ => exact h)
theorem Ret.two {A : Amb} {n : Nat} {s : Nat → Option AV} {h : Nat → Option AO} {u : Nat → Bool} {t1 t2 : Tmp} {v1 v2 r1 r2 : AV} (h1 : s t1 = some v1) (h2 : s t2 = some v2) (k1 : v1.wk (r1.ren (rn []))) (k2 : v2.wk (r2.ren (rn []))) (b1 : r1.bel (blt 0)) (b2 : r2.bel (blt 0))
    (hne : (Nat.beq t2 t1) = false) (hA : A.nA = 0) : Ret A [t1, t2] (.tup [r1, r2]) [] .ret ⟨n, s, h, u⟩ :=
  (Ret.of (rs := [t1, t2]) (vs := [r1, r2]) (H' := []) (res := .tup [r1, r2]) [] (fun i hi => by rw [hA] at hi; omega) ⟨⟨b1, v1, h1, k1⟩, ⟨b2, v2, h2, k2⟩, trivial⟩ rfl trivial (by simp)
    (show RetV [t1, t2] (.tup [r1, r2]) _ from ⟨[r1, r2], rfl, rfl, by simp [ls, TsOk, List.zip, List.zipWith, hne]⟩)).1
end Go.Proofs.YtcojfnjpcpochaaDoor.E
end
section
namespace Go.Proofs.YtcojfnjpcpochaaDoor.V

theorem sum_length (l : List UInt8) : (sum l).length = 32 := St.text_length _
theorem tag_length (d : UInt8) (ps : List (List UInt8)) : (tag d ps).length = 32 := St.text_length _
def fit (n : Nat) (l : List UInt8) : List UInt8 := l.take n ++ List.replicate (n - (l.take n).length) 0
def Coll (L : List (List UInt8)) : Prop := ∃ x ∈ L, ∃ y ∈ L, x ≠ y ∧ sum x = sum y
theorem Coll.mono {L M : List (List UInt8)} (h : Coll L) (hs : ∀ x ∈ L, x ∈ M) : Coll M := by
  obtain ⟨x, hx, y, hy, hne, he⟩ := h
  exact ⟨x, hs x hx, y, hs y hy, hne, he⟩
theorem Coll.of {x y : List UInt8} {L : List (List UInt8)} (hx : x ∈ L) (hy : y ∈ L) (he : sum x = sum y) : x = y ∨ Coll L := by
  by_cases h : x = y
  · exact .inl h
  · exact .inr ⟨x, hx, y, hy, h, he⟩
end Go.Proofs.YtcojfnjpcpochaaDoor.V
end
section
namespace Go.Proofs.YtcojfnjpcpochaaDoor.E
open Go Go.RowKit Go.Proofs.YtcojfnjpcpochaaDoor.V
theorem strs_of {N : Nat → Nat → Prop} {ρ : Env} {w : World} {ps : List (List UInt8)} {v : Value} (h : VRel N ρ w (.sl none ps.length (ps.map sA)) v) (hN : ∀ b o, N b o → b < w.heap.size) : Strs w v ps := by
  cases h with
  | sl o n cs a cap vals hc h ho hn hz hm =>
    refine ⟨a, cap, rfl, hn, hm, fun i hi => ?_⟩
    obtain ⟨_, b, off, ha, hx, hnn⟩ := hc i (by simpa using hi)
    have hv := (h i (.v (.string (B (sget ps i)))) (by simp [sget, hi])).raw
    refine ⟨b, off, ha, hN _ _ hnn, ?_⟩
    rw [hx, hv]
    rfl
theorem two {vs : Array Value} (h : vs.size = 2) : ∃ a b, vs = #[a, b] := by
  obtain ⟨l⟩ := vs
  match l, h with
  | [a, b], _ => exact ⟨a, b, rfl⟩
theorem input_fc {G : List (Nat × Array Value)} (d : UInt8) (ps : List (List UInt8)) (hL : (input d ps).length ≤ 140737488355328) :
    FC Tryd.prog G 83 [.v (.int .u8 (U8 d)), .sl none ps.length (ps.map sA)] [] (sA (input d ps)) [] :=
  FC.of_calls Tryd.func83 rfl rfl ⟨trivial, ⟨by simp, belL_s _ _⟩, trivial⟩ fun A vs hG HS hsz h => by
    obtain ⟨a, v, rfl⟩ := two hsz
    obtain rfl := (h 0 _ _ rfl rfl).raw
    exact input_ok d v ps A.w (strs_of (h 1 _ _ rfl rfl) fun b o hb => hb.1) hL
theorem tag_fc {G : List (Nat × Array Value)} (hm : ShaIn G) (d : UInt8) (ps : List (List UInt8)) (hL : (input d ps).length ≤ 140737488355328) :
    FC Tryd.prog G 67 [.v (.int .u8 (U8 d)), .sl none ps.length (ps.map sA)] [] (sA (tag d ps)) [] :=
  FC.of_calls Tryd.func67 rfl rfl ⟨trivial, ⟨by simp, belL_s _ _⟩, trivial⟩ fun A vs hG HS hsz h => by
    obtain ⟨a, v, rfl⟩ := two hsz
    obtain rfl := (h 0 _ _ rfl rfl).raw
    exact tag_ok d v ps A.w (tabs_hsat HS hG hm) (strs_of (h 1 _ _ rfl rfl) fun b o hb => hb.1) hL
end Go.Proofs.YtcojfnjpcpochaaDoor.E
end
section
namespace Go.Proofs.YtcojfnjpcpochaaDoor.V

abbrev Txt := List UInt8
def node (a b : Txt) : Txt := tag 5 [a, b]
def inp2 (a b : Txt) : Txt := input 5 [a, b]
theorem node_eq (a b : Txt) : node a b = sum (inp2 a b) := rfl
theorem node_length (a b : Txt) : (node a b).length = 32 := tag_length _ _
theorem inp2_length (a b : Txt) : (inp2 a b).length = a.length + b.length + 9 := by
  simp [inp2, input, be4_length]
  omega
def pairsL {β : Type} (f : Txt → Txt → β) : List Txt → List β
  | a :: b :: r => f a b :: pairsL f r
  | _ => []
theorem pairsL_length {β : Type} (f : Txt → Txt → β) : ∀ l : List Txt, (pairsL f l).length = l.length / 2
  | [] => rfl
  | [_] => by simp [pairsL]
  | a :: b :: r => by
    show (pairsL f r).length + 1 = (r.length + 1 + 1) / 2
    rw [pairsL_length f r]
    omega
def tget (l : List Txt) (i : Nat) : Txt := l[i]?.getD []
theorem tget_mem {l : List Txt} {i : Nat} (h : i < l.length) : tget l i ∈ l := by
  rw [tget, List.getElem?_eq_getElem h]
  exact List.getElem_mem h
theorem tget_some {l : List Txt} {i : Nat} (h : i < l.length) : l[i]? = some (tget l i) := by
  rw [tget, List.getElem?_eq_getElem h]
  rfl
theorem pairsL_get {β : Type} (f : Txt → Txt → β) : ∀ (l : List Txt) (j : Nat), 2 * j + 1 < l.length → (pairsL f l)[j]? = some (f (tget l (2 * j)) (tget l (2 * j + 1)))
  | [], _, h => by simp at h
  | [_], _, h => by simp at h
  | a :: b :: r, 0, _ => rfl
  | a :: b :: r, j + 1, h => by
    show (pairsL f r)[j]? = _
    rw [pairsL_get f r j (by simp at h; omega)]
    rfl
theorem tget_pairs (l : List Txt) (j : Nat) (h : 2 * j + 1 < l.length) : tget (pairsL node l) j = node (tget l (2 * j)) (tget l (2 * j + 1)) := by
  rw [tget, pairsL_get node l j h]
  rfl
theorem pairsL_append {β : Type} (f : Txt → Txt → β) : ∀ (n : Nat) (a b : List Txt), a.length = 2 * n → pairsL f (a ++ b) = pairsL f a ++ pairsL f b
  | 0, a, b, h => by
    obtain rfl : a = [] := List.eq_nil_of_length_eq_zero (by omega)
    rfl
  | n + 1, a, b, h => by
    match a, h with
    | x :: y :: a, h =>
      show f x y :: pairsL f (a ++ b) = f x y :: pairsL f a ++ pairsL f b
      rw [pairsL_append f n a b (by simp at h; omega)]
      rfl
theorem pairsL_step {β : Type} (f : Txt → Txt → β) (l : List Txt) (m : Nat) (h : 2 * m + 1 < l.length) : pairsL f (l.take (2 * (m + 1))) = pairsL f (l.take (2 * m)) ++ [f (tget l (2 * m)) (tget l (2 * m + 1))] := by
  have h1 : l.take (2 * (m + 1)) = l.take (2 * m) ++ [tget l (2 * m), tget l (2 * m + 1)] := by
    have e : 2 * (m + 1) = 2 * m + 1 + 1 := by omega
    rw [e, List.take_succ_eq_append_getElem h, List.take_succ_eq_append_getElem (by omega : 2 * m < l.length), List.append_assoc]
    have a := tget_some (l := l) (i := 2 * m) (by omega)
    have b := tget_some (l := l) (i := 2 * m + 1) h
    rw [List.getElem?_eq_getElem (by omega)] at a
    rw [List.getElem?_eq_getElem h] at b
    rw [Option.some.inj a, Option.some.inj b]
    rfl
  rw [h1, pairsL_append f m _ _ (by rw [List.length_take]; omega)]
  rfl
theorem pairsL_last {β : Type} (f : Txt → Txt → β) (l : List Txt) (m : Nat) (h1 : 2 * m ≤ l.length) (h2 : l.length ≤ 2 * m + 1) : pairsL f (l.take (2 * m)) = pairsL f l := by
  have h := pairsL_append f m (l.take (2 * m)) (l.drop (2 * m)) (by rw [List.length_take]; omega)
  rw [List.take_append_drop] at h
  rw [h]
  have : (l.drop (2 * m)).length ≤ 1 := by rw [List.length_drop]; omega
  match l.drop (2 * m), this with
  | [], _ => simp [pairsL]
  | [_], _ => simp [pairsL]
theorem pairs_mem_length {l : List Txt} : ∀ x ∈ pairsL node l, x.length = 32 := by
  match l with
  | [] => intro x hx; cases hx
  | [_] => intro x hx; cases hx
  | a :: b :: r =>
    intro x hx
    rcases List.mem_cons.1 hx with rfl | hx
    · exact node_length _ _
    · exact pairs_mem_length (l := r) x hx

def sib (i : Nat) : Nat := if i % 2 = 0 then i + 1 else i - 1
theorem sib_lt {i n : Nat} (h : i < 2 * n) : sib i < 2 * n := by unfold sib; split <;> omega
def par (x : Txt) (i : Nat) (s : Txt) : Txt := if i % 2 = 0 then node x s else node s x
def parI (x : Txt) (i : Nat) (s : Txt) : Txt := if i % 2 = 0 then inp2 x s else inp2 s x
theorem par_eq (x : Txt) (i : Nat) (s : Txt) : par x i s = sum (parI x i s) := by unfold par parI; split <;> rfl
theorem par_length (x : Txt) (i : Nat) (s : Txt) : (par x i s).length = 32 := by rw [par_eq]; exact sum_length _
theorem par_get (l : List Txt) (i n : Nat) (h : i < 2 * n) (hl : l.length = 2 * n) : par (tget l i) i (tget l (sib i)) = tget (pairsL node l) (i / 2) := by
  rw [tget_pairs l (i / 2) (by omega)]
  unfold par sib
  split
  · rw [show 2 * (i / 2) = i by omega]
  · rw [show 2 * (i / 2) = i - 1 by omega, show i - 1 + 1 = i by omega]
def rootN : Nat → List Txt → Txt
  | 0, l => tget l 0
  | n + 1, l => rootN n (pairsL node l)
def pathN : Nat → List Txt → Nat → List Txt
  | 0, _, _ => []
  | n + 1, l, i => tget l (sib i) :: pathN n (pairsL node l) (i / 2)
def inputsN : Nat → List Txt → List Txt
  | 0, _ => []
  | n + 1, l => pairsL inp2 l ++ inputsN n (pairsL node l)
def climbL : Txt → Nat → List Txt → Txt
  | x, _, [] => x
  | x, i, s :: p => climbL (par x i s) (i / 2) p
def climbedL : Txt → Nat → List Txt → List Txt
  | _, _, [] => []
  | x, i, s :: p => parI x i s :: climbedL (par x i s) (i / 2) p
theorem pathN_length : ∀ (n : Nat) (l : List Txt) (i : Nat), (pathN n l i).length = n
  | 0, _, _ => rfl
  | n + 1, l, i => by simp [pathN, pathN_length n]
theorem half_len {l : List Txt} {h : Nat} (hl : l.length = 2 ^ (h + 1)) : (pairsL node l).length = 2 ^ h := by
  rw [pairsL_length, hl, Nat.pow_succ]
  omega
theorem pathN_mem : ∀ (n : Nat) (l : List Txt) (i : Nat), l.length = 2 ^ n → i < 2 ^ n → (∀ x ∈ l, x.length = 32) → ∀ x ∈ pathN n l i, x.length = 32
  | 0, _, _, _, _, _, x, hx => by cases hx
  | n + 1, l, i, hl, hi, h32, x, hx => by
    have hp : 2 ^ (n + 1) = 2 * 2 ^ n := by rw [Nat.pow_succ]; omega
    rcases List.mem_cons.1 hx with rfl | hx
    · exact h32 _ (tget_mem (by have := sib_lt (i := i) (n := 2 ^ n) (by omega); omega))
    · exact pathN_mem n _ _ (half_len hl) (by omega) pairs_mem_length x hx
theorem climb_path : ∀ (n : Nat) (l : List Txt) (i : Nat), l.length = 2 ^ n → i < 2 ^ n → climbL (tget l i) i (pathN n l i) = rootN n l
  | 0, l, i, _, hi => by
    obtain rfl : i = 0 := by simp at hi; exact hi
    rfl
  | n + 1, l, i, hl, hi => by
    have hp : 2 ^ (n + 1) = 2 * 2 ^ n := by rw [Nat.pow_succ]; omega
    show climbL (par (tget l i) i (tget l (sib i))) (i / 2) (pathN n (pairsL node l) (i / 2)) = rootN n (pairsL node l)
    rw [par_get l i (2 ^ n) (by omega) (by omega)]
    exact climb_path n _ _ (half_len hl) (by omega)
def mayN (n : Nat) : Bool := n == 1 || n == 2 || n == 4 || n == 8 || n == 16 || n == 32 || n == 64 || n == 128
theorem mayN_iff {n : Nat} : mayN n = true ↔ ∃ h, h ≤ 7 ∧ n = 2 ^ h := by
  constructor
  · intro h
    simp only [mayN, Bool.or_eq_true, beq_iff_eq] at h
    rcases h with ((((((h | h) | h) | h) | h) | h) | h) | h
    · exact ⟨0, by omega, h⟩
    · exact ⟨1, by omega, h⟩
    · exact ⟨2, by omega, h⟩
    · exact ⟨3, by omega, h⟩
    · exact ⟨4, by omega, h⟩
    · exact ⟨5, by omega, h⟩
    · exact ⟨6, by omega, h⟩
    · exact ⟨7, by omega, h⟩
  · rintro ⟨h, hh, rfl⟩
    have : h = 0 ∨ h = 1 ∨ h = 2 ∨ h = 3 ∨ h = 4 ∨ h = 5 ∨ h = 6 ∨ h = 7 := by omega
    rcases this with rfl | rfl | rfl | rfl | rfl | rfl | rfl | rfl <;> rfl
theorem mayN_pow {h : Nat} (hh : h ≤ 7) : mayN (2 ^ h) = true := mayN_iff.2 ⟨h, hh, rfl⟩
def rootT (l : List Txt) : Txt := if mayN l.length then rootN (Nat.log2 l.length) l else []
def pathT (l : List Txt) (i : Int) : List Txt := if mayN l.length ∧ 0 ≤ i ∧ i < l.length then pathN (Nat.log2 l.length) l i.toNat else []
def inputsT (l : List Txt) : List Txt := if mayN l.length then inputsN (Nat.log2 l.length) l else []
def climbT (x : Txt) (i : Int) (p : List Txt) : Txt := climbL x i.toNat p
def climbedT (x : Txt) (i : Int) (p : List Txt) : List Txt := climbedL x i.toNat p
theorem pathT_eq {l : List Txt} {h i : Nat} (hh : h ≤ 7) (hl : l.length = 2 ^ h) (hi : i < 2 ^ h) : pathT l (i : Int) = pathN h l i := by
  rw [pathT, hl, mayN_pow hh, Nat.log2_two_pow, if_pos ⟨rfl, by omega, by omega⟩]
  rfl
end Go.Proofs.YtcojfnjpcpochaaDoor.V
end
