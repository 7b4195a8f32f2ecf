import Derived.Test.YtmmoadhjlgbmhaaDoorZ93ab9da7
import Derived.Test.YtmmoadhjlgbmhaaDoorZ6cf0c1ef
import Derived.Lib.LaidTab
import Derived.LaidSub
import Derived.Test.YtmmoadhjlgbmhaaDoorZ3164a14e
import Derived.Test.YtmmoadhjlgbmhaaDoorCards
import Derived.Test.YtmmoadhjlgbmhaaDoorTie
import Derived.ProofKit
import Derived.OpenShut
import Derived.Deep.DeepHandedRow
import Derived.SizedLaws
import Derived.SliceStrings
import Derived.Test.YtmmoadhjlgbmhaaDoorZ63cd79b2
section
/- Layer 5's statements: what they use, and the first of them. -/
namespace Go.Proofs.YtmmoadhjlgbmhaaDoor.E
open Go Go.RowKit Go.Proofs.YtmmoadhjlgbmhaaDoor.V
attribute [local go_sem] B_size B_append B_extract mk_B B_toList take_drop_len List.length_drop List.length_take sgn32 sgn64 add32 sub32 mul32 add64 sub64 mul64 mul64_8 and32 or32 xor32 and64 or64 xor64 shl32_run shr32_run shl64_run shr64_run not32 not32' xor32_all w_u32_u8 w_u64_u8 w_i64_u8 w_u8_u32 w_u8_u64 w_u32_u64 w_u64_u32 w_u8_u8 w_u32_u32 w_u64_u64
attribute [local go_sem ↓] run_index_B' add32 sub32 mul32 add64 sub64 mul64 mul64_8 and32 or32 xor32 and64 or64 xor64 shl32_run shr32_run shl64_run shr64_run not32 not32' xor32_all w_u32_u8 w_u64_u8 w_i64_u8 w_u8_u32 w_u8_u64 w_u32_u64 w_u64_u32 w_u8_u8 w_u32_u32 w_u64_u64 w_u64_nat w_u32_nat w_u8_nat
def pickW (c : Int) (n : Nat) : Nat := ((if c < 0 then -(c + 1) else c) % (n : Int)).toNat
theorem pickW_eq (c : Int) (n : Nat) (h : 0 < n) : ((pickW c n : Nat) : Int) = (if c < 0 then -(c + 1) else c) % (n : Int) := by
  unfold pickW
  rw [Int.toNat_of_nonneg (Int.emod_nonneg _ (by omega))]
theorem pickW_lt (c : Int) (n : Nat) (h : 0 < n) : pickW c n < n := by
  have h1 := pickW_eq c n h
  have h2 := Int.emod_lt_of_pos (if c < 0 then -(c + 1) else c) (show (0 : Int) < (n : Int) by omega)
  omega
theorem take_nextN {a b : List Nat} (m : Nat) (ha : m < a.length) (hb : m < b.length) (h : a.take m = b.take m) (he : el a m = el b m) : a.take (m + 1) = b.take (m + 1) := by
  have h1 : el a m = a[m] := by simp [el, ha]
  have h2 : el b m = b[m] := by simp [el, hb]
  rw [List.take_succ_eq_append_getElem ha, List.take_succ_eq_append_getElem hb, h, ← h1, ← h2, he]
theorem pub_length (s : Txw) (leaf : Int) : (pubT s leaf).length = 32 := tag_length _ _
theorem fromT_nil (msg : Txw) : fromT [] msg = [] := rfl
attribute [local irreducible] sum tag input laidN wstep walkT secretT digitsT pickW pubT signT fromT
section
variable {G : List (Nat × Array Value)}
theorem pickW_fc (c : Int) (n : Nat) (h1 : -9223372036854775808 ≤ c) (h2 : c ≤ 9223372036854775807) (h0 : 0 < n) (hn : (n : Int) ≤ 9223372036854775807) :
    FC Tryd.prog G 24 [.v (.int .i64 c), .v (.int .i64 (n : Int))] [] (.v (.int .i64 ((pickW c n : Nat) : Int))) [] := by
  have hpk := pickW_eq c n h0
  refine FC.of_wp [4] Tryd.func24 rfl rfl rfl rfl (by first | trivial | (simp; first | done | fail) | exact ⟨trivial, hbel _⟩) (by first | trivial | (simp; first | done | fail) | exact ⟨trivial, hbel _⟩) (by exact Nat.le_of_ble_eq_true rfl) ?_
  intro A hG hnA hAB
  unfold start
  refine WP.rs hG ?_
  refine Ch.pu gdN (by exact ⟨rfl, trivial⟩) (OpS.assign) (by first | exact trivial | exact ⟨rfl, trivial⟩) rfl ?_
  refine Ch.nil ?_
  refine WP.seq ?_
  refine WP.rs hG ?_
  refine Ch.pu gdN (by exact ⟨rfl, trivial⟩) (OpS.move) (by first | exact trivial | exact ⟨rfl, trivial⟩) rfl ?_
  refine Ch.pu gdN (by exact ⟨rfl, rfl, trivial⟩) (OpS.int rfl (by first | exact wr64 (by omega) | exact rfl)) (by first | exact trivial | exact ⟨rfl, trivial⟩) rfl ?_
  refine Ch.nil ?_
  refine WP.cond rfl ?_ ?_
  · intro ht
    have ht' := of_decide_eq_true ht
    refine WP.rg hG ?_
    refine Ch.pu gdN (by exact ⟨rfl, trivial⟩) (OpS.move) (by first | exact trivial | exact ⟨rfl, trivial⟩) rfl ?_
    refine Ch.pu gdN (by exact ⟨rfl, rfl, trivial⟩) (OpS.int rfl (by first | exact wr64 (by omega) | exact rfl)) (by first | exact trivial | exact ⟨rfl, trivial⟩) rfl ?_
    refine Ch.pu gdN (by exact ⟨rfl, trivial⟩) (OpS.negI rfl (by omega)) (by first | exact trivial | exact ⟨rfl, trivial⟩) rfl ?_
    refine Ch.pu gdN (by exact ⟨rfl, trivial⟩) (OpS.assign) (by first | exact trivial | exact ⟨rfl, trivial⟩) rfl ?_
    refine Ch.nil ?_
    refine WP.rs hG ?_
    refine Ch.pu gdN (by exact ⟨rfl, trivial⟩) (OpS.move) (by first | exact trivial | exact ⟨rfl, trivial⟩) rfl ?_
    refine Ch.pu gdN (by exact ⟨rfl, trivial⟩) (OpS.move) (by first | exact trivial | exact ⟨rfl, trivial⟩) rfl ?_
    refine Ch.pu gdN (by exact ⟨rfl, rfl, trivial⟩) (OpS.rem (by omega) (by omega)) (by first | exact trivial | exact ⟨rfl, trivial⟩) rfl ?_
    refine Ch.pu gdN (by exact ⟨rfl, trivial⟩) (OpS.assign) (by first | exact trivial | exact ⟨rfl, trivial⟩) rfl ?_
    refine Ch.nil ?_
    exact WP.ret (Ret.one rfl (.of_eq (by rw [hpk, if_pos ht']; rfl)) trivial hnA)
  · intro ht
    have ht' := of_decide_eq_false ht
    refine WP.skip ?_
    refine WP.rs hG ?_
    refine Ch.pu gdN (by exact ⟨rfl, trivial⟩) (OpS.move) (by first | exact trivial | exact ⟨rfl, trivial⟩) rfl ?_
    refine Ch.pu gdN (by exact ⟨rfl, trivial⟩) (OpS.move) (by first | exact trivial | exact ⟨rfl, trivial⟩) rfl ?_
    refine Ch.pu gdN (by exact ⟨rfl, rfl, trivial⟩) (OpS.rem (by omega) (by omega)) (by first | exact trivial | exact ⟨rfl, trivial⟩) rfl ?_
    refine Ch.pu gdN (by exact ⟨rfl, trivial⟩) (OpS.assign) (by first | exact trivial | exact ⟨rfl, trivial⟩) rfl ?_
    refine Ch.nil ?_
    exact WP.ret (Ret.one rfl (.of_eq (by rw [hpk, if_neg ht']; rfl)) trivial hnA)
theorem ints_fc (a b : List Nat) (hl : a.length ≤ 1000000) (r : Bool) (hr : r = decide (a = b)) :
    FC Tryd.prog G 11 [.sl none a.length (a.map nA), .sl none b.length (b.map nA)] [] (.v (.bool r)) [] := by
  refine FC.of_wp [4] Tryd.func11 rfl rfl rfl rfl ⟨⟨by simp, belL_n _ _⟩, ⟨by simp, belL_n _ _⟩, trivial⟩ trivial (by exact Nat.le_of_ble_eq_true rfl) ?_
  intro A hG hnA hAB
  unfold start
  refine WP.rs hG ?_
  refine Ch.pu gdN (by exact ⟨rfl, trivial⟩) (OpS.assign) (by first | exact trivial | exact ⟨rfl, trivial⟩) rfl ?_
  refine Ch.nil ?_
  refine WP.seq ?_
  refine WP.rs hG ?_
  refine Ch.pu gdN (by exact ⟨rfl, trivial⟩) (OpS.move) (by first | exact trivial | exact ⟨rfl, trivial⟩) rfl ?_
  refine Ch.pu gdN (by exact ⟨rfl, trivial⟩) (OpS.len rfl) (by first | exact trivial | exact ⟨rfl, trivial⟩) rfl ?_
  refine Ch.pu gdN (by exact ⟨rfl, trivial⟩) (OpS.move) (by first | exact trivial | exact ⟨rfl, trivial⟩) rfl ?_
  refine Ch.pu gdN (by exact ⟨rfl, trivial⟩) (OpS.len rfl) (by first | exact trivial | exact ⟨rfl, trivial⟩) rfl ?_
  refine Ch.pu gdN (by exact ⟨rfl, rfl, trivial⟩) (OpS.int rfl (by first | exact wr64 (by omega) | exact rfl)) (by first | exact trivial | exact ⟨rfl, trivial⟩) rfl ?_
  refine Ch.nil ?_
  refine WP.cond rfl ?_ ?_
  · intro ht
    have ht' := bne_iff_ne.mp ht
    refine WP.rs hG ?_
    refine Ch.pu gdN (by exact ⟨rfl, trivial⟩) (OpS.assign) (by first | exact trivial | exact ⟨rfl, trivial⟩) rfl ?_
    refine Ch.nil ?_
    obtain rfl : r = false := by
      rw [hr]
      exact decide_eq_false (fun h => ht' (by rw [h]))
    exact WP.ret (Ret.one rfl (.rfl _) trivial hnA)
  · intro ht
    have ht' := bne_eq_false_iff_eq.mp ht
    have hab : a.length = b.length := by omega
    refine WP.skip ?_
    refine WP.seq ?_
    refine WP.rs hG ?_
    refine Ch.pu gdN (by exact ⟨rfl, trivial⟩) (OpS.assign) (by first | exact trivial | exact ⟨rfl, trivial⟩) rfl ?_
    refine Ch.nil ?_
    refine WP.block ?_
    refine WP.loop (fun k σ => ∃ m : Nat, (m + k = a.length ∧ a.take m = b.take m) ∧ σ = ⟨26, ls [(0, .sl none a.length (a.map nA)), (1, .sl none b.length (b.map nA)), (5, .v (.int .i64 (m : Int)))], lh [], blt 0⟩) (a.length) (Ent.of [] ?_ ?_ ?_ ?_).se ⟨0, ⟨by omega, rfl⟩, rfl⟩ ?_
    · exact (fun i hi => by rw [hnA] at hi; simp only [List.length_cons, List.length_nil] at hi ⊢; first | exact absurd hi (Nat.not_lt_zero _) | (revert i; decide))
    · (repeat (first | exact trivial | (refine And.intro ⟨(by first | trivial | (simp; first | done | fail) | exact ⟨trivial, hbel _⟩), _, rfl, (by first | exact .rfl _ | exact .nil | exact .of_eq (by simp; first | done | fail) | exact AV.wk.sh (by simp; first | done | fail) | exact .untip _ _ _)⟩ ?_)))
    · (repeat (first | exact trivial | (refine And.intro ⟨rfl, (by first | trivial | (simp; first | done | fail) | exact ⟨trivial, hbel _⟩), (by first | rfl | (simp; first | done | fail))⟩ ?_)))
    · simp [rn]
    · rintro k σ ⟨m, ⟨hm, hab2⟩, rfl⟩
      refine WP.seq ?_
      refine WP.rs hG ?_
      refine Ch.pu gdN (by exact ⟨rfl, trivial⟩) (OpS.move) (by first | exact trivial | exact ⟨rfl, trivial⟩) rfl ?_
      refine Ch.pu gdN (by exact ⟨rfl, trivial⟩) (OpS.move) (by first | exact trivial | exact ⟨rfl, trivial⟩) rfl ?_
      refine Ch.pu gdN (by exact ⟨rfl, trivial⟩) (OpS.len rfl) (by first | exact trivial | exact ⟨rfl, trivial⟩) rfl ?_
      refine Ch.pu gdN (by exact ⟨rfl, rfl, trivial⟩) (OpS.int rfl (by first | exact wr64 (by omega) | exact rfl)) (by first | exact trivial | exact ⟨rfl, trivial⟩) rfl ?_
      refine Ch.nil ?_
      refine WP.cond rfl ?_ ?_
      · intro ht
        have ht2 := of_decide_eq_true ht
        refine WP.skip ?_
        refine WP.seq ?_
        refine WP.block ?_
        refine WP.rsD (by kernel_rfl) hG ?_
        refine Ch.pu gdN (by exact ⟨rfl, trivial⟩) (OpS.move) (by first | exact trivial | exact ⟨rfl, trivial⟩) rfl ?_
        refine Ch.pu gdN (by exact ⟨rfl, trivial⟩) (OpS.move) (by first | exact trivial | exact ⟨rfl, trivial⟩) rfl ?_
        refine Ch.pu gdN (by exact ⟨rfl, rfl, trivial⟩) (OpS.indexM rfl rfl rfl (by first | with_reducible exact Int.toNat_natCast _ | with_reducible exact tnLit _ _ | with_reducible exact tnLitA _ _ | with_reducible exact tnL _ | with_reducible exact tnA _ _ | with_reducible exact tnM _ _ | with_reducible exact tnMA _ _ _ | exact rfl) (by omega) (by omega) (by first | rfl | (simp; done) | omega)) (by first | exact trivial | exact ⟨rfl, trivial⟩) rfl ?_
        refine Ch.pu gdN (by exact ⟨rfl, trivial⟩) (OpS.loadS rfl rfl) (by first | exact trivial | exact ⟨rfl, trivial⟩) rfl ?_
        refine Ch.pu gdN (by exact ⟨rfl, trivial⟩) (OpS.move) (by first | exact trivial | exact ⟨rfl, trivial⟩) rfl ?_
        refine Ch.pu gdN (by exact ⟨rfl, trivial⟩) (OpS.move) (by first | exact trivial | exact ⟨rfl, trivial⟩) rfl ?_
        refine Ch.pu gdN (by exact ⟨rfl, rfl, trivial⟩) (OpS.indexM rfl rfl rfl (by first | with_reducible exact Int.toNat_natCast _ | with_reducible exact tnLit _ _ | with_reducible exact tnLitA _ _ | with_reducible exact tnL _ | with_reducible exact tnA _ _ | with_reducible exact tnM _ _ | with_reducible exact tnMA _ _ _ | exact rfl) (by omega) (by omega) (by first | rfl | (simp; done) | omega)) (by first | exact trivial | exact ⟨rfl, trivial⟩) rfl ?_
        refine Ch.pu gdN (by exact ⟨rfl, trivial⟩) (OpS.loadS rfl rfl) (by first | exact trivial | exact ⟨rfl, trivial⟩) rfl ?_
        refine Ch.pu gdN (by exact ⟨rfl, rfl, trivial⟩) (OpS.int rfl (by first | exact wr64 (by omega) | exact rfl)) (by first | exact trivial | exact ⟨rfl, trivial⟩) rfl ?_
        refine Ch.nilD ?_ (by kernel_rfl)
        refine WP.cond rfl ?_ ?_
        · intro ht
          have ht3 : ¬ el a m = el b m := by
            intro e
            rw [e] at ht
            simp at ht
          refine WP.rs hG ?_
          refine Ch.pu gdN (by exact ⟨rfl, trivial⟩) (OpS.assign) (by first | exact trivial | exact ⟨rfl, trivial⟩) rfl ?_
          refine Ch.nil ?_
          obtain rfl : r = false := by
            rw [hr]
            exact decide_eq_false (fun h => ht3 (by rw [h]))
          exact WP.ret (Ret.one rfl (.rfl _) trivial hnA)
        · intro ht
          have ht3 : el a m = el b m := by
            have := bne_eq_false_iff_eq.mp ht
            omega
          refine WP.skip ?_
          refine WP.rg hG ?_
          refine Ch.pu gdN (by exact ⟨rfl, trivial⟩) (OpS.move) (by first | exact trivial | exact ⟨rfl, trivial⟩) rfl ?_
          refine Ch.pu gdN (by exact ⟨rfl, rfl, trivial⟩) (OpS.int rfl (by first | exact wr64 (by omega) | exact rfl)) (by first | exact trivial | exact ⟨rfl, trivial⟩) rfl ?_
          refine Ch.pu gdN (by exact ⟨rfl, trivial⟩) (OpS.assign) (by first | exact trivial | exact ⟨rfl, trivial⟩) rfl ?_
          refine Ch.nil ?_
          refine ⟨k - 1, _, by omega, (Ent.of [] ?_ ?_ ?_ ?_).se, m + 1, ⟨by omega, take_nextN m (by omega) (by omega) hab2 ht3⟩, rfl⟩
          · exact (fun i hi => by rw [hnA] at hi; simp only [List.length_cons, List.length_nil] at hi ⊢; first | exact absurd hi (Nat.not_lt_zero _) | (revert i; decide))
          · (repeat (first | exact trivial | (refine And.intro ⟨(by first | trivial | (simp; first | done | fail) | exact ⟨trivial, hbel _⟩), _, rfl, (by first | exact .rfl _ | exact .nil | exact .of_eq (by simp; first | done | fail) | exact AV.wk.sh (by simp; first | done | fail) | exact .untip _ _ _)⟩ ?_)))
          · (repeat (first | exact trivial | (refine And.intro ⟨rfl, (by first | trivial | (simp; first | done | fail) | exact ⟨trivial, hbel _⟩), (by first | rfl | (simp; first | done | fail))⟩ ?_)))
          · simp [rn]
      · intro ht
        have ht2 := of_decide_eq_false ht
        have hend : m = a.length := by omega
        have heq : a = b := by
          rw [hend] at hab2
          rw [List.take_length, hab, List.take_length] at hab2
          exact hab2
        refine WP.exit ?_
        refine WP.rs hG ?_
        refine Ch.pu gdN (by exact ⟨rfl, trivial⟩) (OpS.assign) (by first | exact trivial | exact ⟨rfl, trivial⟩) rfl ?_
        refine Ch.nil ?_
        obtain rfl : r = true := by
          rw [hr]
          exact decide_eq_true heq
        exact WP.ret (Ret.one rfl (.rfl _) trivial hnA)
theorem awake_fc (hm : ShaIn G) : FC Tryd.prog G 10 [] [] (.v (.bool true)) [] := by
  have hp := pub_fc hm [115] 3 (by decide)
  have hg := sign_fc hm [115] 3 [109] (by decide) (by decide)
  have hgl := signT_length [115] 3 [109]
  have hpl := pub_length [115] 3
  have hdl := digitsT_length [109]
  have hd := digits_fc (G := G) hm [109] (by decide)
  have hf := from_fc (G := G) hm (signT [115] 3 [109]) [109] (by rw [hgl]; decide) (by decide)
  rw [sign_back] at hf
  have hf0 := from_fc (G := G) hm [] [109] (by decide) (by decide)
  rw [fromT_nil] at hf0
  refine FC.of_wp [0] Tryd.func10 rfl rfl rfl rfl (by first | trivial | (simp; first | done | fail) | exact ⟨trivial, hbel _⟩) (by first | trivial | (simp; first | done | fail) | exact ⟨trivial, hbel _⟩) (by exact Nat.le_of_ble_eq_true rfl) ?_
  intro A hG hnA hAB
  unfold start
  refine WP.rs hG ?_
  refine Ch.pu gdN (by exact ⟨rfl, trivial⟩) (OpS.assign) (by first | exact trivial | exact ⟨rfl, trivial⟩) rfl ?_
  refine Ch.nil ?_
  refine WP.rs hG ?_
  refine Ch.callP (hp) gdN (by repeat (first | exact EvL.nil | (apply EvL.cons; exact rfl))) (by exact (And.intro (by first | exact .rfl _ | exact .untip _ _ _ | exact .nil | exact .func _ | exact AV.wk.sh (renL_s _ _) | exact AV.wk.sh (by simp; first | done | fail)) (And.intro (by first | exact .rfl _ | exact .untip _ _ _ | exact .nil | exact .func _ | exact AV.wk.sh (renL_s _ _) | exact AV.wk.sh (by simp; first | done | fail)) trivial))) (by rfl) rfl ?_
  refine Ch.pu gdN (by exact ⟨rfl, trivial⟩) (OpS.assign) (by first | exact trivial | exact ⟨rfl, trivial⟩) rfl ?_
  refine Ch.nil ?_
  refine WP.rs hG ?_
  refine Ch.callP (hg) gdN (by repeat (first | exact EvL.nil | (apply EvL.cons; exact rfl))) (by exact (And.intro (by first | exact .rfl _ | exact .untip _ _ _ | exact .nil | exact .func _ | exact AV.wk.sh (renL_s _ _) | exact AV.wk.sh (by simp; first | done | fail)) (And.intro (by first | exact .rfl _ | exact .untip _ _ _ | exact .nil | exact .func _ | exact AV.wk.sh (renL_s _ _) | exact AV.wk.sh (by simp; first | done | fail)) (And.intro (by first | exact .rfl _ | exact .untip _ _ _ | exact .nil | exact .func _ | exact AV.wk.sh (renL_s _ _) | exact AV.wk.sh (by simp; first | done | fail)) trivial)))) (by rfl) rfl ?_
  refine Ch.pu gdN (by exact ⟨rfl, trivial⟩) (OpS.assign) (by first | exact trivial | exact ⟨rfl, trivial⟩) rfl ?_
  refine Ch.nil ?_
  refine WP.rs hG ?_
  refine Ch.callS (hd) gdN (by repeat (first | exact EvL.nil | (apply EvL.cons; exact rfl))) (by exact (And.intro (by first | exact .rfl _ | exact .untip _ _ _ | exact .nil | exact .func _ | exact AV.wk.sh (renL_s _ _) | exact AV.wk.sh (by simp; first | done | fail)) trivial)) (by first | rfl | simp) rfl ?_
  refine Ch.pu gdN (by exact ⟨rfl, trivial⟩) (OpS.len rfl) (by first | exact trivial | exact ⟨rfl, trivial⟩) rfl ?_
  refine Ch.pu gdN (by exact ⟨rfl, rfl, trivial⟩) (OpS.int (v' := .bool true) rfl (by rw [hdl]; rfl)) (by first | exact trivial | exact ⟨rfl, trivial⟩) rfl ?_
  refine Ch.pu gdN (by exact ⟨rfl, trivial⟩) (OpS.move) (by first | exact trivial | exact ⟨rfl, trivial⟩) rfl ?_
  refine Ch.pu (by exact gdT rfl rfl) (by exact ⟨rfl, trivial⟩) (OpS.move) (by first | exact trivial | exact ⟨rfl, trivial⟩) rfl ?_
  refine Ch.pu (by exact gdT rfl rfl) (by exact ⟨rfl, trivial⟩) (OpS.lenS rfl) (by first | exact trivial | exact ⟨rfl, trivial⟩) rfl ?_
  refine Ch.pu (by exact gdT rfl rfl) (by exact ⟨rfl, rfl, trivial⟩) (OpS.int (v' := .bool true) rfl (by rw [hpl]; rfl)) (by first | exact trivial | exact ⟨rfl, trivial⟩) rfl ?_
  refine Ch.pu gdN (by first | exact ⟨rfl, rfl, trivial⟩ | exact ⟨rfl, rfl, rfl, trivial⟩) (OpS.pickT) (by first | exact trivial | exact ⟨rfl, trivial⟩) rfl ?_
  refine Ch.pu gdN (by exact ⟨rfl, trivial⟩) (OpS.move) (by first | exact trivial | exact ⟨rfl, trivial⟩) rfl ?_
  refine Ch.pu (by exact gdT rfl rfl) (by exact ⟨rfl, trivial⟩) (OpS.move) (by first | exact trivial | exact ⟨rfl, trivial⟩) rfl ?_
  refine Ch.pu (by exact gdT rfl rfl) (by exact ⟨rfl, trivial⟩) (OpS.lenS rfl) (by first | exact trivial | exact ⟨rfl, trivial⟩) rfl ?_
  refine Ch.pu (by exact gdT rfl rfl) (by exact ⟨rfl, rfl, trivial⟩) (OpS.int (v' := .bool true) rfl (by rw [hgl]; rfl)) (by first | exact trivial | exact ⟨rfl, trivial⟩) rfl ?_
  refine Ch.pu gdN (by first | exact ⟨rfl, rfl, trivial⟩ | exact ⟨rfl, rfl, rfl, trivial⟩) (OpS.pickT) (by first | exact trivial | exact ⟨rfl, trivial⟩) rfl ?_
  refine Ch.pu gdN (by exact ⟨rfl, trivial⟩) (OpS.move) (by first | exact trivial | exact ⟨rfl, trivial⟩) rfl ?_
  refine Ch.pu (by exact gdT rfl rfl) (by exact ⟨rfl, trivial⟩) (OpS.move) (by first | exact trivial | exact ⟨rfl, trivial⟩) rfl ?_
  refine Ch.callP (hf) (by exact gdT rfl rfl) (by repeat (first | exact EvL.nil | (apply EvL.cons; exact rfl))) (by exact (And.intro (by first | exact .rfl _ | exact .untip _ _ _ | exact .nil | exact .func _ | exact AV.wk.sh (renL_s _ _) | exact AV.wk.sh (by simp; first | done | fail)) (And.intro (by first | exact .rfl _ | exact .untip _ _ _ | exact .nil | exact .func _ | exact AV.wk.sh (renL_s _ _) | exact AV.wk.sh (by simp; first | done | fail)) trivial))) (by rfl) rfl ?_
  refine Ch.pu (by exact gdT rfl rfl) (by exact ⟨rfl, trivial⟩) (OpS.move) (by first | exact trivial | exact ⟨rfl, trivial⟩) rfl ?_
  refine Ch.pu (by exact gdT rfl rfl) (by exact ⟨rfl, rfl, trivial⟩) (OpS.strEqT) (by first | exact trivial | exact ⟨rfl, trivial⟩) rfl ?_
  refine Ch.pu gdN (by first | exact ⟨rfl, rfl, trivial⟩ | exact ⟨rfl, rfl, rfl, trivial⟩) (OpS.pickT) (by first | exact trivial | exact ⟨rfl, trivial⟩) rfl ?_
  refine Ch.pu gdN (by exact ⟨rfl, trivial⟩) (OpS.move) (by first | exact trivial | exact ⟨rfl, trivial⟩) rfl ?_
  refine Ch.callP (hf0) (by exact gdT rfl rfl) (by repeat (first | exact EvL.nil | (apply EvL.cons; exact rfl))) (by exact (And.intro (by first | exact .rfl _ | exact .untip _ _ _ | exact .nil | exact .func _ | exact AV.wk.sh (renL_s _ _) | exact AV.wk.sh (by simp; first | done | fail)) (And.intro (by first | exact .rfl _ | exact .untip _ _ _ | exact .nil | exact .func _ | exact AV.wk.sh (renL_s _ _) | exact AV.wk.sh (by simp; first | done | fail)) trivial))) (by rfl) rfl ?_
  refine Ch.pu (by exact gdT rfl rfl) (by exact ⟨rfl, rfl, trivial⟩) (OpS.strEqT) (by first | exact trivial | exact ⟨rfl, trivial⟩) rfl ?_
  refine Ch.pu gdN (by first | exact ⟨rfl, rfl, trivial⟩ | exact ⟨rfl, rfl, rfl, trivial⟩) (OpS.pickT) (by first | exact trivial | exact ⟨rfl, trivial⟩) rfl ?_
  refine Ch.pu gdN (by exact ⟨rfl, trivial⟩) (OpS.assign) (by first | exact trivial | exact ⟨rfl, trivial⟩) rfl ?_
  refine Ch.nil ?_
  refine WP.ret (Ret.one rfl (by first | exact .rfl _ | exact .nil | exact .of_eq (by simp; first | done | fail) | exact AV.wk.sh (by simp; first | done | fail) | exact .untip _ _ _) (by first | trivial | simp [AV.bel]) hnA)
theorem wotsBack_fc (hm : ShaIn G) (s : Txw) (leaf : Int) (msg : Txw) (hv : s.length ≤ 140737488355264) (hv2 : msg.length ≤ 140737488355264) : FC Tryd.prog G 5 [sA s, .v (.int .i64 leaf), sA msg] [] (.v (.bool true)) [] := by
  have hp := pub_fc hm s leaf hv
  have hg := sign_fc hm s leaf msg hv hv2
  have hgl := signT_length s leaf msg
  have hpl := pub_length s leaf
  have hf := from_fc (G := G) hm (signT s leaf msg) msg (by rw [hgl]; decide) hv2
  rw [sign_back] at hf
  refine FC.of_wp [6] Tryd.func5 rfl rfl rfl rfl (by first | trivial | (simp; first | done | fail) | exact ⟨trivial, hbel _⟩) (by first | trivial | (simp; first | done | fail) | exact ⟨trivial, hbel _⟩) (by exact Nat.le_of_ble_eq_true rfl) ?_
  intro A hG hnA hAB
  unfold start
  refine WP.rs hG ?_
  refine Ch.pu gdN (by exact ⟨rfl, trivial⟩) (OpS.assign) (by first | exact trivial | exact ⟨rfl, trivial⟩) rfl ?_
  refine Ch.nil ?_
  refine WP.rs hG ?_
  refine Ch.callP (awake_fc hm) gdN (by repeat (first | exact EvL.nil | (apply EvL.cons; exact rfl))) (by exact trivial) (by rfl) rfl ?_
  refine Ch.pu gdN (by exact ⟨rfl, trivial⟩) (OpS.assign) (by first | exact trivial | exact ⟨rfl, trivial⟩) rfl ?_
  refine Ch.nil ?_
  refine WP.rs hG ?_
  refine Ch.pu gdN (by exact ⟨rfl, trivial⟩) (OpS.move) (by first | exact trivial | exact ⟨rfl, trivial⟩) rfl ?_
  refine Ch.pu gdN (by exact ⟨rfl, trivial⟩) (OpS.move) (by first | exact trivial | exact ⟨rfl, trivial⟩) rfl ?_
  refine Ch.callP (hp) gdN (by repeat (first | exact EvL.nil | (apply EvL.cons; exact rfl))) (by exact (And.intro (by first | exact .rfl _ | exact .untip _ _ _ | exact .nil | exact .func _ | exact AV.wk.sh (renL_s _ _) | exact AV.wk.sh (by simp; first | done | fail)) (And.intro (by first | exact .rfl _ | exact .untip _ _ _ | exact .nil | exact .func _ | exact AV.wk.sh (renL_s _ _) | exact AV.wk.sh (by simp; first | done | fail)) trivial))) (by rfl) rfl ?_
  refine Ch.pu gdN (by exact ⟨rfl, trivial⟩) (OpS.assign) (by first | exact trivial | exact ⟨rfl, trivial⟩) rfl ?_
  refine Ch.nil ?_
  refine WP.rs hG ?_
  refine Ch.pu gdN (by exact ⟨rfl, trivial⟩) (OpS.move) (by first | exact trivial | exact ⟨rfl, trivial⟩) rfl ?_
  refine Ch.pu gdN (by exact ⟨rfl, trivial⟩) (OpS.move) (by first | exact trivial | exact ⟨rfl, trivial⟩) rfl ?_
  refine Ch.pu gdN (by exact ⟨rfl, trivial⟩) (OpS.move) (by first | exact trivial | exact ⟨rfl, trivial⟩) rfl ?_
  refine Ch.callP (hg) gdN (by repeat (first | exact EvL.nil | (apply EvL.cons; exact rfl))) (by exact (And.intro (by first | exact .rfl _ | exact .untip _ _ _ | exact .nil | exact .func _ | exact AV.wk.sh (renL_s _ _) | exact AV.wk.sh (by simp; first | done | fail)) (And.intro (by first | exact .rfl _ | exact .untip _ _ _ | exact .nil | exact .func _ | exact AV.wk.sh (renL_s _ _) | exact AV.wk.sh (by simp; first | done | fail)) (And.intro (by first | exact .rfl _ | exact .untip _ _ _ | exact .nil | exact .func _ | exact AV.wk.sh (renL_s _ _) | exact AV.wk.sh (by simp; first | done | fail)) trivial)))) (by rfl) rfl ?_
  refine Ch.pu gdN (by exact ⟨rfl, trivial⟩) (OpS.assign) (by first | exact trivial | exact ⟨rfl, trivial⟩) rfl ?_
  refine Ch.nil ?_
  refine WP.rs hG ?_
  refine Ch.pu gdN (by exact ⟨rfl, trivial⟩) (OpS.move) (by first | exact trivial | exact ⟨rfl, trivial⟩) rfl ?_
  refine Ch.pu gdN (by exact ⟨rfl, trivial⟩) (OpS.move) (by first | exact trivial | exact ⟨rfl, trivial⟩) rfl ?_
  refine Ch.pu (by exact gdT rfl rfl) (by exact ⟨rfl, trivial⟩) (OpS.move) (by first | exact trivial | exact ⟨rfl, trivial⟩) rfl ?_
  refine Ch.pu (by exact gdT rfl rfl) (by exact ⟨rfl, trivial⟩) (OpS.lenS rfl) (by first | exact trivial | exact ⟨rfl, trivial⟩) rfl ?_
  refine Ch.pu (by exact gdT rfl rfl) (by exact ⟨rfl, rfl, trivial⟩) (OpS.int (v' := .bool true) rfl (by rw [hpl]; rfl)) (by first | exact trivial | exact ⟨rfl, trivial⟩) rfl ?_
  refine Ch.pu gdN (by first | exact ⟨rfl, rfl, trivial⟩ | exact ⟨rfl, rfl, rfl, trivial⟩) (OpS.pickT) (by first | exact trivial | exact ⟨rfl, trivial⟩) rfl ?_
  refine Ch.pu gdN (by exact ⟨rfl, trivial⟩) (OpS.move) (by first | exact trivial | exact ⟨rfl, trivial⟩) rfl ?_
  refine Ch.pu (by exact gdT rfl rfl) (by exact ⟨rfl, trivial⟩) (OpS.move) (by first | exact trivial | exact ⟨rfl, trivial⟩) rfl ?_
  refine Ch.pu (by exact gdT rfl rfl) (by exact ⟨rfl, trivial⟩) (OpS.lenS rfl) (by first | exact trivial | exact ⟨rfl, trivial⟩) rfl ?_
  refine Ch.pu (by exact gdT rfl rfl) (by exact ⟨rfl, rfl, trivial⟩) (OpS.int (v' := .bool true) rfl (by rw [hgl]; rfl)) (by first | exact trivial | exact ⟨rfl, trivial⟩) rfl ?_
  refine Ch.pu gdN (by first | exact ⟨rfl, rfl, trivial⟩ | exact ⟨rfl, rfl, rfl, trivial⟩) (OpS.pickT) (by first | exact trivial | exact ⟨rfl, trivial⟩) rfl ?_
  refine Ch.pu gdN (by exact ⟨rfl, trivial⟩) (OpS.move) (by first | exact trivial | exact ⟨rfl, trivial⟩) rfl ?_
  refine Ch.pu (by exact gdT rfl rfl) (by exact ⟨rfl, trivial⟩) (OpS.move) (by first | exact trivial | exact ⟨rfl, trivial⟩) rfl ?_
  refine Ch.pu (by exact gdT rfl rfl) (by exact ⟨rfl, trivial⟩) (OpS.move) (by first | exact trivial | exact ⟨rfl, trivial⟩) rfl ?_
  refine Ch.callP (hf) (by exact gdT rfl rfl) (by repeat (first | exact EvL.nil | (apply EvL.cons; exact rfl))) (by exact (And.intro (by first | exact .rfl _ | exact .untip _ _ _ | exact .nil | exact .func _ | exact AV.wk.sh (renL_s _ _) | exact AV.wk.sh (by simp; first | done | fail)) (And.intro (by first | exact .rfl _ | exact .untip _ _ _ | exact .nil | exact .func _ | exact AV.wk.sh (renL_s _ _) | exact AV.wk.sh (by simp; first | done | fail)) trivial))) (by rfl) rfl ?_
  refine Ch.pu (by exact gdT rfl rfl) (by exact ⟨rfl, trivial⟩) (OpS.move) (by first | exact trivial | exact ⟨rfl, trivial⟩) rfl ?_
  refine Ch.pu (by exact gdT rfl rfl) (by exact ⟨rfl, rfl, trivial⟩) (OpS.strEqT) (by first | exact trivial | exact ⟨rfl, trivial⟩) rfl ?_
  refine Ch.pu gdN (by first | exact ⟨rfl, rfl, trivial⟩ | exact ⟨rfl, rfl, rfl, trivial⟩) (OpS.pickT) (by first | exact trivial | exact ⟨rfl, trivial⟩) rfl ?_
  refine Ch.pu gdN (by exact ⟨rfl, trivial⟩) (OpS.assign) (by first | exact trivial | exact ⟨rfl, trivial⟩) rfl ?_
  refine Ch.nil ?_
  refine WP.ret (Ret.one rfl (by first | exact .rfl _ | exact .nil | exact .of_eq (by simp; first | done | fail) | exact AV.wk.sh (by simp; first | done | fail) | exact .untip _ _ _) (by first | trivial | simp [AV.bel]) hnA)
theorem wotsWalks_fc (hm : ShaIn G) (hr : RefIn G) (c a b : Int) (v : Txw) (hv : v.length ≤ 140737488355264) (ha : -9223372036854775808 ≤ a ∧ a ≤ 9223372036854775807) (hb : -9223372036854775808 ≤ b ∧ b ≤ 9223372036854775807) :
    FC Tryd.prog G 4 [.v (.int .i64 c), .v (.int .i64 a), .v (.int .i64 b), sA v] [] (.v (.bool true)) [] := by
  refine FC.of_wp [8] Tryd.func4 rfl rfl rfl rfl (by first | trivial | (simp; first | done | fail) | exact ⟨trivial, hbel _⟩) (by first | trivial | (simp; first | done | fail) | exact ⟨trivial, hbel _⟩) (by exact Nat.le_of_ble_eq_true rfl) ?_
  intro A hG hnA hAB
  unfold start
  refine WP.rs hG ?_
  refine Ch.pu gdN (by exact ⟨rfl, trivial⟩) (OpS.assign) (by first | exact trivial | exact ⟨rfl, trivial⟩) rfl ?_
  refine Ch.nil ?_
  refine WP.rs hG ?_
  refine Ch.callP (awake_fc hm) gdN (by repeat (first | exact EvL.nil | (apply EvL.cons; exact rfl))) (by exact trivial) (by rfl) rfl ?_
  refine Ch.pu gdN (by exact ⟨rfl, trivial⟩) (OpS.assign) (by first | exact trivial | exact ⟨rfl, trivial⟩) rfl ?_
  refine Ch.nil ?_
  refine WP.rs hG ?_
  refine Ch.pu gdN (by exact ⟨rfl, trivial⟩) (OpS.move) (by first | exact trivial | exact ⟨rfl, trivial⟩) rfl ?_
  refine Ch.pu gdN (by exact ⟨rfl, trivial⟩) (OpS.move) (by first | exact trivial | exact ⟨rfl, trivial⟩) rfl ?_
  refine Ch.pu (by exact gdT rfl rfl) (by exact ⟨rfl, trivial⟩) (OpS.move) (by first | exact trivial | exact ⟨rfl, trivial⟩) rfl ?_
  refine Ch.pu (by exact gdT rfl rfl) (by exact ⟨rfl, trivial⟩) (OpS.move) (by first | exact trivial | exact ⟨rfl, trivial⟩) rfl ?_
  refine Ch.pu (by exact gdT rfl rfl) (by exact ⟨rfl, trivial⟩) (OpS.move) (by first | exact trivial | exact ⟨rfl, trivial⟩) rfl ?_
  refine Ch.callP (step_fc hm c a v hv) (by exact gdT rfl rfl) (by repeat (first | exact EvL.nil | (apply EvL.cons; exact rfl))) (by exact (And.intro (by first | exact .rfl _ | exact .untip _ _ _ | exact .nil | exact .func _ | exact AV.wk.sh (renL_s _ _) | exact AV.wk.sh (by simp; first | done | fail)) (And.intro (by first | exact .rfl _ | exact .untip _ _ _ | exact .nil | exact .func _ | exact AV.wk.sh (renL_s _ _) | exact AV.wk.sh (by simp; first | done | fail)) (And.intro (by first | exact .rfl _ | exact .untip _ _ _ | exact .nil | exact .func _ | exact AV.wk.sh (renL_s _ _) | exact AV.wk.sh (by simp; first | done | fail)) trivial)))) (by rfl) rfl ?_
  refine Ch.pu (by exact gdT rfl rfl) (by exact ⟨rfl, trivial⟩) (OpS.move) (by first | exact trivial | exact ⟨rfl, trivial⟩) rfl ?_
  refine Ch.pu (by exact gdT rfl rfl) (by exact ⟨rfl, trivial⟩) (OpS.move) (by first | exact trivial | exact ⟨rfl, trivial⟩) rfl ?_
  refine Ch.pu (by exact gdT rfl rfl) (by exact ⟨rfl, trivial⟩) (OpS.move) (by first | exact trivial | exact ⟨rfl, trivial⟩) rfl ?_
  refine Ch.callP (rstep_fc hr c a v hv) (by exact gdT rfl rfl) (by repeat (first | exact EvL.nil | (apply EvL.cons; exact rfl))) (by exact (And.intro (by first | exact .rfl _ | exact .untip _ _ _ | exact .nil | exact .func _ | exact AV.wk.sh (renL_s _ _) | exact AV.wk.sh (by simp; first | done | fail)) (And.intro (by first | exact .rfl _ | exact .untip _ _ _ | exact .nil | exact .func _ | exact AV.wk.sh (renL_s _ _) | exact AV.wk.sh (by simp; first | done | fail)) (And.intro (by first | exact .rfl _ | exact .untip _ _ _ | exact .nil | exact .func _ | exact AV.wk.sh (renL_s _ _) | exact AV.wk.sh (by simp; first | done | fail)) trivial)))) (by rfl) rfl ?_
  refine Ch.pu (by exact gdT rfl rfl) (by exact ⟨rfl, rfl, trivial⟩) (OpS.strEqT) (by first | exact trivial | exact ⟨rfl, trivial⟩) rfl ?_
  refine Ch.pu gdN (by first | exact ⟨rfl, rfl, trivial⟩ | exact ⟨rfl, rfl, rfl, trivial⟩) (OpS.pickT) (by first | exact trivial | exact ⟨rfl, trivial⟩) rfl ?_
  refine Ch.pu gdN (by exact ⟨rfl, trivial⟩) (OpS.move) (by first | exact trivial | exact ⟨rfl, trivial⟩) rfl ?_
  refine Ch.pu (by exact gdT rfl rfl) (by exact ⟨rfl, trivial⟩) (OpS.move) (by first | exact trivial | exact ⟨rfl, trivial⟩) rfl ?_
  refine Ch.pu (by exact gdT rfl rfl) (by exact ⟨rfl, trivial⟩) (OpS.move) (by first | exact trivial | exact ⟨rfl, trivial⟩) rfl ?_
  refine Ch.pu (by exact gdT rfl rfl) (by exact ⟨rfl, trivial⟩) (OpS.move) (by first | exact trivial | exact ⟨rfl, trivial⟩) rfl ?_
  refine Ch.pu (by exact gdT rfl rfl) (by exact ⟨rfl, trivial⟩) (OpS.move) (by first | exact trivial | exact ⟨rfl, trivial⟩) rfl ?_
  refine Ch.callP (walk_fc hm c a b v hv ha hb) (by exact gdT rfl rfl) (by repeat (first | exact EvL.nil | (apply EvL.cons; exact rfl))) (by exact (And.intro (by first | exact .rfl _ | exact .untip _ _ _ | exact .nil | exact .func _ | exact AV.wk.sh (renL_s _ _) | exact AV.wk.sh (by simp; first | done | fail)) (And.intro (by first | exact .rfl _ | exact .untip _ _ _ | exact .nil | exact .func _ | exact AV.wk.sh (renL_s _ _) | exact AV.wk.sh (by simp; first | done | fail)) (And.intro (by first | exact .rfl _ | exact .untip _ _ _ | exact .nil | exact .func _ | exact AV.wk.sh (renL_s _ _) | exact AV.wk.sh (by simp; first | done | fail)) (And.intro (by first | exact .rfl _ | exact .untip _ _ _ | exact .nil | exact .func _ | exact AV.wk.sh (renL_s _ _) | exact AV.wk.sh (by simp; first | done | fail)) trivial))))) (by rfl) rfl ?_
  refine Ch.pu (by exact gdT rfl rfl) (by exact ⟨rfl, trivial⟩) (OpS.move) (by first | exact trivial | exact ⟨rfl, trivial⟩) rfl ?_
  refine Ch.pu (by exact gdT rfl rfl) (by exact ⟨rfl, trivial⟩) (OpS.move) (by first | exact trivial | exact ⟨rfl, trivial⟩) rfl ?_
  refine Ch.pu (by exact gdT rfl rfl) (by exact ⟨rfl, trivial⟩) (OpS.move) (by first | exact trivial | exact ⟨rfl, trivial⟩) rfl ?_
  refine Ch.pu (by exact gdT rfl rfl) (by exact ⟨rfl, trivial⟩) (OpS.move) (by first | exact trivial | exact ⟨rfl, trivial⟩) rfl ?_
  refine Ch.callP (rwalk_fc hr c a b v hv ha hb) (by exact gdT rfl rfl) (by repeat (first | exact EvL.nil | (apply EvL.cons; exact rfl))) (by exact (And.intro (by first | exact .rfl _ | exact .untip _ _ _ | exact .nil | exact .func _ | exact AV.wk.sh (renL_s _ _) | exact AV.wk.sh (by simp; first | done | fail)) (And.intro (by first | exact .rfl _ | exact .untip _ _ _ | exact .nil | exact .func _ | exact AV.wk.sh (renL_s _ _) | exact AV.wk.sh (by simp; first | done | fail)) (And.intro (by first | exact .rfl _ | exact .untip _ _ _ | exact .nil | exact .func _ | exact AV.wk.sh (renL_s _ _) | exact AV.wk.sh (by simp; first | done | fail)) (And.intro (by first | exact .rfl _ | exact .untip _ _ _ | exact .nil | exact .func _ | exact AV.wk.sh (renL_s _ _) | exact AV.wk.sh (by simp; first | done | fail)) trivial))))) (by rfl) rfl ?_
  refine Ch.pu (by exact gdT rfl rfl) (by exact ⟨rfl, rfl, trivial⟩) (OpS.strEqT) (by first | exact trivial | exact ⟨rfl, trivial⟩) rfl ?_
  refine Ch.pu gdN (by first | exact ⟨rfl, rfl, trivial⟩ | exact ⟨rfl, rfl, rfl, trivial⟩) (OpS.pickT) (by first | exact trivial | exact ⟨rfl, trivial⟩) rfl ?_
  refine Ch.pu gdN (by exact ⟨rfl, trivial⟩) (OpS.assign) (by first | exact trivial | exact ⟨rfl, trivial⟩) rfl ?_
  refine Ch.nil ?_
  refine WP.ret (Ret.one rfl (by first | exact .rfl _ | exact .nil | exact .of_eq (by simp; first | done | fail) | exact AV.wk.sh (by simp; first | done | fail) | exact .untip _ _ _) (by first | trivial | simp [AV.bel]) hnA)
theorem wotsTells_fc (hm : ShaIn G) (hr : RefIn G) (s : Txw) (leaf : Int) (msg sig : Txw) (hv : s.length ≤ 140737488355264) (hv2 : msg.length ≤ 140737488355264) (hl : sig.length ≤ 9223372036854775807) :
    FC Tryd.prog G 3 [sA s, .v (.int .i64 leaf), sA msg, sA sig] [] (.v (.bool true)) [] := by
  have hi := ints_fc (G := G) (digitsT msg) (digitsT msg) (by rw [digitsT_length]; decide) true (by simp)
  refine FC.of_wp [8] Tryd.func3 rfl rfl rfl rfl (by first | trivial | (simp; first | done | fail) | exact ⟨trivial, hbel _⟩) (by first | trivial | (simp; first | done | fail) | exact ⟨trivial, hbel _⟩) (by exact Nat.le_of_ble_eq_true rfl) ?_
  intro A hG hnA hAB
  unfold start
  refine WP.rs hG ?_
  refine Ch.pu gdN (by exact ⟨rfl, trivial⟩) (OpS.assign) (by first | exact trivial | exact ⟨rfl, trivial⟩) rfl ?_
  refine Ch.nil ?_
  refine WP.rs hG ?_
  refine Ch.callP (awake_fc hm) gdN (by repeat (first | exact EvL.nil | (apply EvL.cons; exact rfl))) (by exact trivial) (by rfl) rfl ?_
  refine Ch.pu gdN (by exact ⟨rfl, trivial⟩) (OpS.assign) (by first | exact trivial | exact ⟨rfl, trivial⟩) rfl ?_
  refine Ch.nil ?_
  refine WP.rs hG ?_
  refine Ch.pu gdN (by exact ⟨rfl, trivial⟩) (OpS.move) (by first | exact trivial | exact ⟨rfl, trivial⟩) rfl ?_
  refine Ch.pu gdN (by exact ⟨rfl, trivial⟩) (OpS.move) (by first | exact trivial | exact ⟨rfl, trivial⟩) rfl ?_
  refine Ch.pu (by exact gdT rfl rfl) (by exact ⟨rfl, trivial⟩) (OpS.move) (by first | exact trivial | exact ⟨rfl, trivial⟩) rfl ?_
  refine Ch.callS (digits_fc hm msg hv2) (by exact gdT rfl rfl) (by repeat (first | exact EvL.nil | (apply EvL.cons; exact rfl))) (by exact (And.intro (by first | exact .rfl _ | exact .untip _ _ _ | exact .nil | exact .func _ | exact AV.wk.sh (renL_s _ _) | exact AV.wk.sh (by simp; first | done | fail)) trivial)) (by first | rfl | simp) rfl ?_
  refine Ch.pu (by exact gdT rfl rfl) (by exact ⟨rfl, trivial⟩) (OpS.move) (by first | exact trivial | exact ⟨rfl, trivial⟩) rfl ?_
  refine Ch.callS (rdigits_fc hr msg hv2) (by exact gdT rfl rfl) (by repeat (first | exact EvL.nil | (apply EvL.cons; exact rfl))) (by exact (And.intro (by first | exact .rfl _ | exact .untip _ _ _ | exact .nil | exact .func _ | exact AV.wk.sh (renL_s _ _) | exact AV.wk.sh (by simp; first | done | fail)) trivial)) (by first | rfl | simp) rfl ?_
  refine Ch.callP (hi) (by exact gdT rfl rfl) (by repeat (first | exact EvL.nil | (apply EvL.cons; exact rfl))) (by exact (And.intro (by first | exact .rfl _ | exact .untip _ _ _ | exact .nil | exact .func _ | exact AV.wk.sh (renL_s _ _) | exact AV.wk.sh (by simp; first | done | fail)) (And.intro (by first | exact .rfl _ | exact .untip _ _ _ | exact .nil | exact .func _ | exact AV.wk.sh (renL_s _ _) | exact AV.wk.sh (by simp; first | done | fail)) trivial))) (by rfl) rfl ?_
  refine Ch.pu gdN (by first | exact ⟨rfl, rfl, trivial⟩ | exact ⟨rfl, rfl, rfl, trivial⟩) (OpS.pickT) (by first | exact trivial | exact ⟨rfl, trivial⟩) rfl ?_
  refine Ch.pu gdN (by exact ⟨rfl, trivial⟩) (OpS.move) (by first | exact trivial | exact ⟨rfl, trivial⟩) rfl ?_
  refine Ch.pu (by exact gdT rfl rfl) (by exact ⟨rfl, trivial⟩) (OpS.move) (by first | exact trivial | exact ⟨rfl, trivial⟩) rfl ?_
  refine Ch.pu (by exact gdT rfl rfl) (by exact ⟨rfl, trivial⟩) (OpS.move) (by first | exact trivial | exact ⟨rfl, trivial⟩) rfl ?_
  refine Ch.callP (pub_fc hm s leaf hv) (by exact gdT rfl rfl) (by repeat (first | exact EvL.nil | (apply EvL.cons; exact rfl))) (by exact (And.intro (by first | exact .rfl _ | exact .untip _ _ _ | exact .nil | exact .func _ | exact AV.wk.sh (renL_s _ _) | exact AV.wk.sh (by simp; first | done | fail)) (And.intro (by first | exact .rfl _ | exact .untip _ _ _ | exact .nil | exact .func _ | exact AV.wk.sh (renL_s _ _) | exact AV.wk.sh (by simp; first | done | fail)) trivial))) (by rfl) rfl ?_
  refine Ch.pu (by exact gdT rfl rfl) (by exact ⟨rfl, trivial⟩) (OpS.move) (by first | exact trivial | exact ⟨rfl, trivial⟩) rfl ?_
  refine Ch.pu (by exact gdT rfl rfl) (by exact ⟨rfl, trivial⟩) (OpS.move) (by first | exact trivial | exact ⟨rfl, trivial⟩) rfl ?_
  refine Ch.callP (rpub_fc hr s leaf hv) (by exact gdT rfl rfl) (by repeat (first | exact EvL.nil | (apply EvL.cons; exact rfl))) (by exact (And.intro (by first | exact .rfl _ | exact .untip _ _ _ | exact .nil | exact .func _ | exact AV.wk.sh (renL_s _ _) | exact AV.wk.sh (by simp; first | done | fail)) (And.intro (by first | exact .rfl _ | exact .untip _ _ _ | exact .nil | exact .func _ | exact AV.wk.sh (renL_s _ _) | exact AV.wk.sh (by simp; first | done | fail)) trivial))) (by rfl) rfl ?_
  refine Ch.pu (by exact gdT rfl rfl) (by exact ⟨rfl, rfl, trivial⟩) (OpS.strEqT) (by first | exact trivial | exact ⟨rfl, trivial⟩) rfl ?_
  refine Ch.pu gdN (by first | exact ⟨rfl, rfl, trivial⟩ | exact ⟨rfl, rfl, rfl, trivial⟩) (OpS.pickT) (by first | exact trivial | exact ⟨rfl, trivial⟩) rfl ?_
  refine Ch.pu gdN (by exact ⟨rfl, trivial⟩) (OpS.move) (by first | exact trivial | exact ⟨rfl, trivial⟩) rfl ?_
  refine Ch.pu (by exact gdT rfl rfl) (by exact ⟨rfl, trivial⟩) (OpS.move) (by first | exact trivial | exact ⟨rfl, trivial⟩) rfl ?_
  refine Ch.pu (by exact gdT rfl rfl) (by exact ⟨rfl, trivial⟩) (OpS.move) (by first | exact trivial | exact ⟨rfl, trivial⟩) rfl ?_
  refine Ch.pu (by exact gdT rfl rfl) (by exact ⟨rfl, trivial⟩) (OpS.move) (by first | exact trivial | exact ⟨rfl, trivial⟩) rfl ?_
  refine Ch.callP (sign_fc hm s leaf msg hv hv2) (by exact gdT rfl rfl) (by repeat (first | exact EvL.nil | (apply EvL.cons; exact rfl))) (by exact (And.intro (by first | exact .rfl _ | exact .untip _ _ _ | exact .nil | exact .func _ | exact AV.wk.sh (renL_s _ _) | exact AV.wk.sh (by simp; first | done | fail)) (And.intro (by first | exact .rfl _ | exact .untip _ _ _ | exact .nil | exact .func _ | exact AV.wk.sh (renL_s _ _) | exact AV.wk.sh (by simp; first | done | fail)) (And.intro (by first | exact .rfl _ | exact .untip _ _ _ | exact .nil | exact .func _ | exact AV.wk.sh (renL_s _ _) | exact AV.wk.sh (by simp; first | done | fail)) trivial)))) (by rfl) rfl ?_
  refine Ch.pu (by exact gdT rfl rfl) (by exact ⟨rfl, trivial⟩) (OpS.move) (by first | exact trivial | exact ⟨rfl, trivial⟩) rfl ?_
  refine Ch.pu (by exact gdT rfl rfl) (by exact ⟨rfl, trivial⟩) (OpS.move) (by first | exact trivial | exact ⟨rfl, trivial⟩) rfl ?_
  refine Ch.pu (by exact gdT rfl rfl) (by exact ⟨rfl, trivial⟩) (OpS.move) (by first | exact trivial | exact ⟨rfl, trivial⟩) rfl ?_
  refine Ch.callP (rsign_fc hr s leaf msg hv hv2) (by exact gdT rfl rfl) (by repeat (first | exact EvL.nil | (apply EvL.cons; exact rfl))) (by exact (And.intro (by first | exact .rfl _ | exact .untip _ _ _ | exact .nil | exact .func _ | exact AV.wk.sh (renL_s _ _) | exact AV.wk.sh (by simp; first | done | fail)) (And.intro (by first | exact .rfl _ | exact .untip _ _ _ | exact .nil | exact .func _ | exact AV.wk.sh (renL_s _ _) | exact AV.wk.sh (by simp; first | done | fail)) (And.intro (by first | exact .rfl _ | exact .untip _ _ _ | exact .nil | exact .func _ | exact AV.wk.sh (renL_s _ _) | exact AV.wk.sh (by simp; first | done | fail)) trivial)))) (by rfl) rfl ?_
  refine Ch.pu (by exact gdT rfl rfl) (by exact ⟨rfl, rfl, trivial⟩) (OpS.strEqT) (by first | exact trivial | exact ⟨rfl, trivial⟩) rfl ?_
  refine Ch.pu gdN (by first | exact ⟨rfl, rfl, trivial⟩ | exact ⟨rfl, rfl, rfl, trivial⟩) (OpS.pickT) (by first | exact trivial | exact ⟨rfl, trivial⟩) rfl ?_
  refine Ch.pu gdN (by exact ⟨rfl, trivial⟩) (OpS.move) (by first | exact trivial | exact ⟨rfl, trivial⟩) rfl ?_
  refine Ch.pu (by exact gdT rfl rfl) (by exact ⟨rfl, trivial⟩) (OpS.move) (by first | exact trivial | exact ⟨rfl, trivial⟩) rfl ?_
  refine Ch.pu (by exact gdT rfl rfl) (by exact ⟨rfl, trivial⟩) (OpS.move) (by first | exact trivial | exact ⟨rfl, trivial⟩) rfl ?_
  refine Ch.callP (from_fc hm sig msg hl hv2) (by exact gdT rfl rfl) (by repeat (first | exact EvL.nil | (apply EvL.cons; exact rfl))) (by exact (And.intro (by first | exact .rfl _ | exact .untip _ _ _ | exact .nil | exact .func _ | exact AV.wk.sh (renL_s _ _) | exact AV.wk.sh (by simp; first | done | fail)) (And.intro (by first | exact .rfl _ | exact .untip _ _ _ | exact .nil | exact .func _ | exact AV.wk.sh (renL_s _ _) | exact AV.wk.sh (by simp; first | done | fail)) trivial))) (by rfl) rfl ?_
  refine Ch.pu (by exact gdT rfl rfl) (by exact ⟨rfl, trivial⟩) (OpS.move) (by first | exact trivial | exact ⟨rfl, trivial⟩) rfl ?_
  refine Ch.pu (by exact gdT rfl rfl) (by exact ⟨rfl, trivial⟩) (OpS.move) (by first | exact trivial | exact ⟨rfl, trivial⟩) rfl ?_
  refine Ch.callP (rfrom_fc hr sig msg hv2) (by exact gdT rfl rfl) (by repeat (first | exact EvL.nil | (apply EvL.cons; exact rfl))) (by exact (And.intro (by first | exact .rfl _ | exact .untip _ _ _ | exact .nil | exact .func _ | exact AV.wk.sh (renL_s _ _) | exact AV.wk.sh (by simp; first | done | fail)) (And.intro (by first | exact .rfl _ | exact .untip _ _ _ | exact .nil | exact .func _ | exact AV.wk.sh (renL_s _ _) | exact AV.wk.sh (by simp; first | done | fail)) trivial))) (by rfl) rfl ?_
  refine Ch.pu (by exact gdT rfl rfl) (by exact ⟨rfl, rfl, trivial⟩) (OpS.strEqT) (by first | exact trivial | exact ⟨rfl, trivial⟩) rfl ?_
  refine Ch.pu gdN (by first | exact ⟨rfl, rfl, trivial⟩ | exact ⟨rfl, rfl, rfl, trivial⟩) (OpS.pickT) (by first | exact trivial | exact ⟨rfl, trivial⟩) rfl ?_
  refine Ch.pu gdN (by exact ⟨rfl, trivial⟩) (OpS.assign) (by first | exact trivial | exact ⟨rfl, trivial⟩) rfl ?_
  refine Ch.nil ?_
  refine WP.ret (Ret.one rfl (by first | exact .rfl _ | exact .nil | exact .of_eq (by simp; first | done | fail) | exact AV.wk.sh (by simp; first | done | fail) | exact .untip _ _ _) (by first | trivial | simp [AV.bel]) hnA)
end
end Go.Proofs.YtmmoadhjlgbmhaaDoor.E
end
section
/- Layer 5's statements: On, Steps, Ends. -/
namespace Go.Proofs.YtmmoadhjlgbmhaaDoor.E
open Go Go.RowKit Go.Proofs.YtmmoadhjlgbmhaaDoor.V
attribute [local go_sem] B_size B_append B_extract mk_B B_toList take_drop_len List.length_drop List.length_take sgn32 sgn64 add32 sub32 mul32 add64 sub64 mul64 mul64_8 and32 or32 xor32 and64 or64 xor64 shl32_run shr32_run shl64_run shr64_run not32 not32' xor32_all w_u32_u8 w_u64_u8 w_i64_u8 w_u8_u32 w_u8_u64 w_u32_u64 w_u64_u32 w_u8_u8 w_u32_u32 w_u64_u64
attribute [local go_sem ↓] run_index_B' add32 sub32 mul32 add64 sub64 mul64 mul64_8 and32 or32 xor32 and64 or64 xor64 shl32_run shr32_run shl64_run shr64_run not32 not32' xor32_all w_u32_u8 w_u64_u8 w_i64_u8 w_u8_u32 w_u8_u64 w_u32_u64 w_u64_u32 w_u8_u8 w_u32_u32 w_u64_u64 w_u64_nat w_u32_nat w_u8_nat
theorem walkN_le (c : Int) : ∀ (n : Nat) (a : Int) (v : Txw), v.length ≤ 140737488355264 → (walkN c n a v).length ≤ 140737488355264
  | 0, _, _, h => h
  | n + 1, a, v, _ => walkN_le c n _ _ (by rw [wstep_length]; decide)
theorem walkT_le (c a b : Int) (v : Txw) (h : v.length ≤ 140737488355264) : (walkT c a b v).length ≤ 140737488355264 := by
  unfold walkT
  split
  · exact h
  · exact walkN_le _ _ _ _ h
theorem ends_one (s : Txw) (leaf : Int) (msg : Txw) (c : Nat) (hc : c < 10) : walkT c (nget (digitsT msg) c) 15 (((signT s leaf msg).drop (16 * c)).take 16) = pubF s leaf c := sign_ends s leaf msg c hc
theorem pubT_eq (s : Txw) (leaf : Int) : pubT s leaf = tag 4 (endsL (pubF s leaf) 10) := rfl
/-- a part of so many bytes -/
theorem OpS.slLHk {P : Program} {G : List (Nat × Array Value)} {dst : Option Tmp} {ty : TypeId} {pos : String} {aft : Array Edge} {gd : Option (Nat × Bool)} {tx : TypeId} {x i j : Operand} {l : List UInt8} {k k' : IntKind} {m n : Int} (m' q : Nat) (hu : P.underlying tx = some .string) (hm : m.toNat = m') (hn : n.toNat = m' + q) (h0 : 0 ≤ m) (h1 : m ≤ n) (h2 : n ≤ (l.length : Int)) :
    OpS P G ⟨dst, .slice tx x (some i) (some j) none, ty, pos, aft, gd⟩ [(x, .v (.string (B l))), (i, .v (.int k m)), (j, .v (.int k' n))] [] ⟨some (.v (.string (B ((l.drop m').take q)))), [], []⟩ := by
  have := OpS.sliceS (P := P) (G := G) (dst := dst) (ty := ty) (pos := pos) (aft := aft) (gd := gd) (tx := tx) (x := x) (i := i) (j := j) (k := k) (k' := k') hu hm hn h0 h1 h2
  rwa [Nat.add_sub_cancel_left] at this
attribute [local irreducible] sum tag input laidN wstep walkT secretT digitsT pickW pubT signT fromT pubF
section
variable {G : List (Nat × Array Value)}
theorem wotsOn_fc (hm : ShaIn G) (c a b e : Int) (v : Txw) (hv : v.length ≤ 140737488355264) (ha : -9223372036854775808 ≤ a ∧ a ≤ 9223372036854775807) (hb : -9223372036854775808 ≤ b ∧ b ≤ 9223372036854775807) (he : -9223372036854775808 ≤ e ∧ e ≤ 9223372036854775807) :
    FC Tryd.prog G 7 [.v (.int .i64 c), .v (.int .i64 a), .v (.int .i64 b), .v (.int .i64 e), sA v] [] (.v (.bool true)) [] := by
  obtain ⟨x, hx⟩ : ∃ x, x = pickW a 16 := ⟨_, rfl⟩
  have hx16 : x < 16 := by rw [hx]; exact pickW_lt _ _ (by decide)
  obtain ⟨y0, hy0⟩ : ∃ y0, y0 = pickW b (16 - x) := ⟨_, rfl⟩
  have hy16 : y0 < 16 - x := by rw [hy0]; exact pickW_lt _ _ (by omega)
  obtain ⟨y, hy⟩ : ∃ y, y = x + y0 := ⟨_, rfl⟩
  obtain ⟨z0, hz0⟩ : ∃ z0, z0 = pickW e (16 - y) := ⟨_, rfl⟩
  have hz16 : z0 < 16 - y := by rw [hz0]; exact pickW_lt _ _ (by omega)
  obtain ⟨z, hz⟩ : ∃ z, z = y + z0 := ⟨_, rfl⟩
  have p1 := pickW_fc (G := G) a 16 ha.1 ha.2 (by decide) (by decide)
  have p2 := pickW_fc (G := G) b (16 - x) hb.1 hb.2 (by omega) (by omega)
  have p3 := pickW_fc (G := G) e (16 - y) he.1 he.2 (by omega) (by omega)
  rw [← hx] at p1
  rw [← hy0] at p2
  rw [← hz0] at p3
  have w1 := walk_fc hm c x y v hv (by omega) (by omega)
  have w2 := walk_fc hm c y z (walkT c x y v) (walkT_le _ _ _ _ hv) (by omega) (by omega)
  rw [walk_on c x y z v (by omega) (by omega) (by omega)] at w2
  have w3 := walk_fc hm c x z v hv (by omega) (by omega)
  have w4 := walk_fc hm c y y v hv (by omega) (by omega)
  rw [walk_stay] at w4
  refine FC.of_wp [10] Tryd.func7 rfl rfl rfl rfl (by first | trivial | (simp; first | done | fail) | exact ⟨trivial, hbel _⟩) (by first | trivial | (simp; first | done | fail) | exact ⟨trivial, hbel _⟩) (by exact Nat.le_of_ble_eq_true rfl) ?_
  intro A hG hnA hAB
  unfold start
  refine WP.rs hG ?_
  refine Ch.pu gdN (by exact ⟨rfl, trivial⟩) (OpS.assign) (by first | exact trivial | exact ⟨rfl, trivial⟩) rfl ?_
  refine Ch.nil ?_
  refine WP.rs hG ?_
  refine Ch.callP (awake_fc hm) gdN (by repeat (first | exact EvL.nil | (apply EvL.cons; exact rfl))) (by exact trivial) (by rfl) rfl ?_
  refine Ch.pu gdN (by exact ⟨rfl, trivial⟩) (OpS.assign) (by first | exact trivial | exact ⟨rfl, trivial⟩) rfl ?_
  refine Ch.nil ?_
  refine WP.rs hG ?_
  refine Ch.pu gdN (by exact ⟨rfl, trivial⟩) (OpS.move) (by first | exact trivial | exact ⟨rfl, trivial⟩) rfl ?_
  refine Ch.callP (p1) gdN (by repeat (first | exact EvL.nil | (apply EvL.cons; exact rfl))) (by exact (And.intro (by first | exact .rfl _ | exact .untip _ _ _ | exact .nil | exact .func _ | exact AV.wk.sh (renL_s _ _) | exact AV.wk.sh (by simp; first | done | fail)) (And.intro (by first | exact .rfl _ | exact .untip _ _ _ | exact .nil | exact .func _ | exact AV.wk.sh (renL_s _ _) | exact AV.wk.sh (by simp; first | done | fail)) trivial))) (by rfl) rfl ?_
  refine Ch.pu gdN (by exact ⟨rfl, trivial⟩) (OpS.assign) (by first | exact trivial | exact ⟨rfl, trivial⟩) rfl ?_
  refine Ch.nil ?_
  refine WP.rs hG ?_
  refine Ch.pu gdN (by exact ⟨rfl, trivial⟩) (OpS.move) (by first | exact trivial | exact ⟨rfl, trivial⟩) rfl ?_
  refine Ch.pu gdN (by exact ⟨rfl, trivial⟩) (OpS.move) (by first | exact trivial | exact ⟨rfl, trivial⟩) rfl ?_
  refine Ch.pu gdN (by exact ⟨rfl, trivial⟩) (OpS.move) (by first | exact trivial | exact ⟨rfl, trivial⟩) rfl ?_
  refine Ch.pu gdN (by exact ⟨rfl, rfl, trivial⟩) (OpS.int (v' := .int .i64 ((16 - x : Nat) : Int)) rfl (by rw [wr64 (by omega)]; congr 1; omega)) (by first | exact trivial | exact ⟨rfl, trivial⟩) rfl ?_
  refine Ch.callP (p2) gdN (by repeat (first | exact EvL.nil | (apply EvL.cons; exact rfl))) (by exact (And.intro (by first | exact .rfl _ | exact .untip _ _ _ | exact .nil | exact .func _ | exact AV.wk.sh (renL_s _ _) | exact AV.wk.sh (by simp; first | done | fail)) (And.intro (by first | exact .rfl _ | exact .untip _ _ _ | exact .nil | exact .func _ | exact AV.wk.sh (renL_s _ _) | exact AV.wk.sh (by simp; first | done | fail)) trivial))) (by rfl) rfl ?_
  refine Ch.pu gdN (by exact ⟨rfl, rfl, trivial⟩) (OpS.int (v' := .int .i64 ((y : Nat) : Int)) rfl (by rw [wr64 (by omega)]; congr 1; omega)) (by first | exact trivial | exact ⟨rfl, trivial⟩) rfl ?_
  refine Ch.pu gdN (by exact ⟨rfl, trivial⟩) (OpS.assign) (by first | exact trivial | exact ⟨rfl, trivial⟩) rfl ?_
  refine Ch.nil ?_
  refine WP.rs hG ?_
  refine Ch.pu gdN (by exact ⟨rfl, trivial⟩) (OpS.move) (by first | exact trivial | exact ⟨rfl, trivial⟩) rfl ?_
  refine Ch.pu gdN (by exact ⟨rfl, trivial⟩) (OpS.move) (by first | exact trivial | exact ⟨rfl, trivial⟩) rfl ?_
  refine Ch.pu gdN (by exact ⟨rfl, trivial⟩) (OpS.move) (by first | exact trivial | exact ⟨rfl, trivial⟩) rfl ?_
  refine Ch.pu gdN (by exact ⟨rfl, rfl, trivial⟩) (OpS.int (v' := .int .i64 ((16 - y : Nat) : Int)) rfl (by rw [wr64 (by omega)]; congr 1; omega)) (by first | exact trivial | exact ⟨rfl, trivial⟩) rfl ?_
  refine Ch.callP (p3) gdN (by repeat (first | exact EvL.nil | (apply EvL.cons; exact rfl))) (by exact (And.intro (by first | exact .rfl _ | exact .untip _ _ _ | exact .nil | exact .func _ | exact AV.wk.sh (renL_s _ _) | exact AV.wk.sh (by simp; first | done | fail)) (And.intro (by first | exact .rfl _ | exact .untip _ _ _ | exact .nil | exact .func _ | exact AV.wk.sh (renL_s _ _) | exact AV.wk.sh (by simp; first | done | fail)) trivial))) (by rfl) rfl ?_
  refine Ch.pu gdN (by exact ⟨rfl, rfl, trivial⟩) (OpS.int (v' := .int .i64 ((z : Nat) : Int)) rfl (by rw [wr64 (by omega)]; congr 1; omega)) (by first | exact trivial | exact ⟨rfl, trivial⟩) rfl ?_
  refine Ch.pu gdN (by exact ⟨rfl, trivial⟩) (OpS.assign) (by first | exact trivial | exact ⟨rfl, trivial⟩) rfl ?_
  refine Ch.nil ?_
  refine WP.rs hG ?_
  refine Ch.pu gdN (by exact ⟨rfl, trivial⟩) (OpS.move) (by first | exact trivial | exact ⟨rfl, trivial⟩) rfl ?_
  refine Ch.pu gdN (by exact ⟨rfl, trivial⟩) (OpS.move) (by first | exact trivial | exact ⟨rfl, trivial⟩) rfl ?_
  refine Ch.pu gdN (by exact ⟨rfl, trivial⟩) (OpS.move) (by first | exact trivial | exact ⟨rfl, trivial⟩) rfl ?_
  refine Ch.pu gdN (by exact ⟨rfl, trivial⟩) (OpS.move) (by first | exact trivial | exact ⟨rfl, trivial⟩) rfl ?_
  refine Ch.callP (w1) gdN (by repeat (first | exact EvL.nil | (apply EvL.cons; exact rfl))) (by exact (And.intro (by first | exact .rfl _ | exact .untip _ _ _ | exact .nil | exact .func _ | exact AV.wk.sh (renL_s _ _) | exact AV.wk.sh (by simp; first | done | fail)) (And.intro (by first | exact .rfl _ | exact .untip _ _ _ | exact .nil | exact .func _ | exact AV.wk.sh (renL_s _ _) | exact AV.wk.sh (by simp; first | done | fail)) (And.intro (by first | exact .rfl _ | exact .untip _ _ _ | exact .nil | exact .func _ | exact AV.wk.sh (renL_s _ _) | exact AV.wk.sh (by simp; first | done | fail)) (And.intro (by first | exact .rfl _ | exact .untip _ _ _ | exact .nil | exact .func _ | exact AV.wk.sh (renL_s _ _) | exact AV.wk.sh (by simp; first | done | fail)) trivial))))) (by rfl) rfl ?_
  refine Ch.pu gdN (by exact ⟨rfl, trivial⟩) (OpS.assign) (by first | exact trivial | exact ⟨rfl, trivial⟩) rfl ?_
  refine Ch.nil ?_
  refine WP.rs hG ?_
  refine Ch.pu gdN (by exact ⟨rfl, trivial⟩) (OpS.move) (by first | exact trivial | exact ⟨rfl, trivial⟩) rfl ?_
  refine Ch.pu gdN (by exact ⟨rfl, trivial⟩) (OpS.move) (by first | exact trivial | exact ⟨rfl, trivial⟩) rfl ?_
  refine Ch.pu (by exact gdT rfl rfl) (by exact ⟨rfl, trivial⟩) (OpS.move) (by first | exact trivial | exact ⟨rfl, trivial⟩) rfl ?_
  refine Ch.pu (by exact gdT rfl rfl) (by exact ⟨rfl, trivial⟩) (OpS.move) (by first | exact trivial | exact ⟨rfl, trivial⟩) rfl ?_
  refine Ch.pu (by exact gdT rfl rfl) (by exact ⟨rfl, trivial⟩) (OpS.move) (by first | exact trivial | exact ⟨rfl, trivial⟩) rfl ?_
  refine Ch.pu (by exact gdT rfl rfl) (by exact ⟨rfl, trivial⟩) (OpS.move) (by first | exact trivial | exact ⟨rfl, trivial⟩) rfl ?_
  refine Ch.callP (w2) (by exact gdT rfl rfl) (by repeat (first | exact EvL.nil | (apply EvL.cons; exact rfl))) (by exact (And.intro (by first | exact .rfl _ | exact .untip _ _ _ | exact .nil | exact .func _ | exact AV.wk.sh (renL_s _ _) | exact AV.wk.sh (by simp; first | done | fail)) (And.intro (by first | exact .rfl _ | exact .untip _ _ _ | exact .nil | exact .func _ | exact AV.wk.sh (renL_s _ _) | exact AV.wk.sh (by simp; first | done | fail)) (And.intro (by first | exact .rfl _ | exact .untip _ _ _ | exact .nil | exact .func _ | exact AV.wk.sh (renL_s _ _) | exact AV.wk.sh (by simp; first | done | fail)) (And.intro (by first | exact .rfl _ | exact .untip _ _ _ | exact .nil | exact .func _ | exact AV.wk.sh (renL_s _ _) | exact AV.wk.sh (by simp; first | done | fail)) trivial))))) (by rfl) rfl ?_
  refine Ch.pu (by exact gdT rfl rfl) (by exact ⟨rfl, trivial⟩) (OpS.move) (by first | exact trivial | exact ⟨rfl, trivial⟩) rfl ?_
  refine Ch.pu (by exact gdT rfl rfl) (by exact ⟨rfl, trivial⟩) (OpS.move) (by first | exact trivial | exact ⟨rfl, trivial⟩) rfl ?_
  refine Ch.pu (by exact gdT rfl rfl) (by exact ⟨rfl, trivial⟩) (OpS.move) (by first | exact trivial | exact ⟨rfl, trivial⟩) rfl ?_
  refine Ch.pu (by exact gdT rfl rfl) (by exact ⟨rfl, trivial⟩) (OpS.move) (by first | exact trivial | exact ⟨rfl, trivial⟩) rfl ?_
  refine Ch.callP (w3) (by exact gdT rfl rfl) (by repeat (first | exact EvL.nil | (apply EvL.cons; exact rfl))) (by exact (And.intro (by first | exact .rfl _ | exact .untip _ _ _ | exact .nil | exact .func _ | exact AV.wk.sh (renL_s _ _) | exact AV.wk.sh (by simp; first | done | fail)) (And.intro (by first | exact .rfl _ | exact .untip _ _ _ | exact .nil | exact .func _ | exact AV.wk.sh (renL_s _ _) | exact AV.wk.sh (by simp; first | done | fail)) (And.intro (by first | exact .rfl _ | exact .untip _ _ _ | exact .nil | exact .func _ | exact AV.wk.sh (renL_s _ _) | exact AV.wk.sh (by simp; first | done | fail)) (And.intro (by first | exact .rfl _ | exact .untip _ _ _ | exact .nil | exact .func _ | exact AV.wk.sh (renL_s _ _) | exact AV.wk.sh (by simp; first | done | fail)) trivial))))) (by rfl) rfl ?_
  refine Ch.pu (by exact gdT rfl rfl) (by exact ⟨rfl, rfl, trivial⟩) (OpS.strEqT) (by first | exact trivial | exact ⟨rfl, trivial⟩) rfl ?_
  refine Ch.pu gdN (by first | exact ⟨rfl, rfl, trivial⟩ | exact ⟨rfl, rfl, rfl, trivial⟩) (OpS.pickT) (by first | exact trivial | exact ⟨rfl, trivial⟩) rfl ?_
  refine Ch.pu gdN (by exact ⟨rfl, trivial⟩) (OpS.move) (by first | exact trivial | exact ⟨rfl, trivial⟩) rfl ?_
  refine Ch.pu (by exact gdT rfl rfl) (by exact ⟨rfl, trivial⟩) (OpS.move) (by first | exact trivial | exact ⟨rfl, trivial⟩) rfl ?_
  refine Ch.pu (by exact gdT rfl rfl) (by exact ⟨rfl, trivial⟩) (OpS.move) (by first | exact trivial | exact ⟨rfl, trivial⟩) rfl ?_
  refine Ch.pu (by exact gdT rfl rfl) (by exact ⟨rfl, trivial⟩) (OpS.move) (by first | exact trivial | exact ⟨rfl, trivial⟩) rfl ?_
  refine Ch.pu (by exact gdT rfl rfl) (by exact ⟨rfl, trivial⟩) (OpS.move) (by first | exact trivial | exact ⟨rfl, trivial⟩) rfl ?_
  refine Ch.callP (w4) (by exact gdT rfl rfl) (by repeat (first | exact EvL.nil | (apply EvL.cons; exact rfl))) (by exact (And.intro (by first | exact .rfl _ | exact .untip _ _ _ | exact .nil | exact .func _ | exact AV.wk.sh (renL_s _ _) | exact AV.wk.sh (by simp; first | done | fail)) (And.intro (by first | exact .rfl _ | exact .untip _ _ _ | exact .nil | exact .func _ | exact AV.wk.sh (renL_s _ _) | exact AV.wk.sh (by simp; first | done | fail)) (And.intro (by first | exact .rfl _ | exact .untip _ _ _ | exact .nil | exact .func _ | exact AV.wk.sh (renL_s _ _) | exact AV.wk.sh (by simp; first | done | fail)) (And.intro (by first | exact .rfl _ | exact .untip _ _ _ | exact .nil | exact .func _ | exact AV.wk.sh (renL_s _ _) | exact AV.wk.sh (by simp; first | done | fail)) trivial))))) (by rfl) rfl ?_
  refine Ch.pu (by exact gdT rfl rfl) (by exact ⟨rfl, trivial⟩) (OpS.move) (by first | exact trivial | exact ⟨rfl, trivial⟩) rfl ?_
  refine Ch.pu (by exact gdT rfl rfl) (by exact ⟨rfl, rfl, trivial⟩) (OpS.strEqT) (by first | exact trivial | exact ⟨rfl, trivial⟩) rfl ?_
  refine Ch.pu gdN (by first | exact ⟨rfl, rfl, trivial⟩ | exact ⟨rfl, rfl, rfl, trivial⟩) (OpS.pickT) (by first | exact trivial | exact ⟨rfl, trivial⟩) rfl ?_
  refine Ch.pu gdN (by exact ⟨rfl, trivial⟩) (OpS.assign) (by first | exact trivial | exact ⟨rfl, trivial⟩) rfl ?_
  refine Ch.nil ?_
  refine WP.ret (Ret.one rfl (by first | exact .rfl _ | exact .nil | exact .of_eq (by simp; first | done | fail) | exact AV.wk.sh (by simp; first | done | fail) | exact .untip _ _ _) (by first | trivial | simp [AV.bel]) hnA)
theorem wotsSteps_fc (hm : ShaIn G) (c a b : Int) (v : Txw) (hv : v.length ≤ 140737488355264) (ha : -9223372036854775808 ≤ a ∧ a ≤ 9223372036854775807) (hb : -9223372036854775808 ≤ b ∧ b ≤ 9223372036854775807) :
    FC Tryd.prog G 8 [.v (.int .i64 c), .v (.int .i64 a), .v (.int .i64 b), sA v] [] (.v (.bool true)) [] := by
  obtain ⟨x, hx⟩ : ∃ x, x = pickW a 16 := ⟨_, rfl⟩
  have hx16 : x < 16 := by rw [hx]; exact pickW_lt _ _ (by decide)
  obtain ⟨y, hy⟩ : ∃ y, y = pickW b 16 := ⟨_, rfl⟩
  have hy16 : y < 16 := by rw [hy]; exact pickW_lt _ _ (by decide)
  have p1 := pickW_fc (G := G) a 16 ha.1 ha.2 (by decide) (by decide)
  have p2 := pickW_fc (G := G) b 16 hb.1 hb.2 (by decide) (by decide)
  rw [← hx] at p1
  rw [← hy] at p2
  have w1 := walk_fc hm c x y v hv (by omega) (by omega)
  refine FC.of_wp [8] Tryd.func8 rfl rfl rfl rfl (by first | trivial | (simp; first | done | fail) | exact ⟨trivial, hbel _⟩) (by first | trivial | (simp; first | done | fail) | exact ⟨trivial, hbel _⟩) (by exact Nat.le_of_ble_eq_true rfl) ?_
  intro A hG hnA hAB
  unfold start
  refine WP.rs hG ?_
  refine Ch.pu gdN (by exact ⟨rfl, trivial⟩) (OpS.assign) (by first | exact trivial | exact ⟨rfl, trivial⟩) rfl ?_
  refine Ch.nil ?_
  refine WP.rs hG ?_
  refine Ch.callP (awake_fc hm) gdN (by repeat (first | exact EvL.nil | (apply EvL.cons; exact rfl))) (by exact trivial) (by rfl) rfl ?_
  refine Ch.pu gdN (by exact ⟨rfl, trivial⟩) (OpS.assign) (by first | exact trivial | exact ⟨rfl, trivial⟩) rfl ?_
  refine Ch.nil ?_
  refine WP.rs hG ?_
  refine Ch.pu gdN (by exact ⟨rfl, trivial⟩) (OpS.move) (by first | exact trivial | exact ⟨rfl, trivial⟩) rfl ?_
  refine Ch.callP (p1) gdN (by repeat (first | exact EvL.nil | (apply EvL.cons; exact rfl))) (by exact (And.intro (by first | exact .rfl _ | exact .untip _ _ _ | exact .nil | exact .func _ | exact AV.wk.sh (renL_s _ _) | exact AV.wk.sh (by simp; first | done | fail)) (And.intro (by first | exact .rfl _ | exact .untip _ _ _ | exact .nil | exact .func _ | exact AV.wk.sh (renL_s _ _) | exact AV.wk.sh (by simp; first | done | fail)) trivial))) (by rfl) rfl ?_
  refine Ch.pu gdN (by exact ⟨rfl, trivial⟩) (OpS.assign) (by first | exact trivial | exact ⟨rfl, trivial⟩) rfl ?_
  refine Ch.nil ?_
  refine WP.rs hG ?_
  refine Ch.pu gdN (by exact ⟨rfl, trivial⟩) (OpS.move) (by first | exact trivial | exact ⟨rfl, trivial⟩) rfl ?_
  refine Ch.callP (p2) gdN (by repeat (first | exact EvL.nil | (apply EvL.cons; exact rfl))) (by exact (And.intro (by first | exact .rfl _ | exact .untip _ _ _ | exact .nil | exact .func _ | exact AV.wk.sh (renL_s _ _) | exact AV.wk.sh (by simp; first | done | fail)) (And.intro (by first | exact .rfl _ | exact .untip _ _ _ | exact .nil | exact .func _ | exact AV.wk.sh (renL_s _ _) | exact AV.wk.sh (by simp; first | done | fail)) trivial))) (by rfl) rfl ?_
  refine Ch.pu gdN (by exact ⟨rfl, trivial⟩) (OpS.assign) (by first | exact trivial | exact ⟨rfl, trivial⟩) rfl ?_
  refine Ch.nil ?_
  refine WP.rs hG ?_
  refine Ch.pu gdN (by exact ⟨rfl, trivial⟩) (OpS.move) (by first | exact trivial | exact ⟨rfl, trivial⟩) rfl ?_
  refine Ch.pu gdN (by exact ⟨rfl, trivial⟩) (OpS.assign) (by first | exact trivial | exact ⟨rfl, trivial⟩) rfl ?_
  refine Ch.nil ?_
  refine WP.seq ?_
  refine WP.rs hG ?_
  refine Ch.pu gdN (by exact ⟨rfl, trivial⟩) (OpS.move) (by first | exact trivial | exact ⟨rfl, trivial⟩) rfl ?_
  refine Ch.pu gdN (by exact ⟨rfl, trivial⟩) (OpS.assign) (by first | exact trivial | exact ⟨rfl, trivial⟩) rfl ?_
  refine Ch.nil ?_
  refine WP.block ?_
  refine WP.loop (fun k σ => ∃ (i : Int) (u : Txw), (k = ((y : Int) - i).toNat ∧ 0 ≤ i ∧ i ≤ 16 ∧ u.length ≤ 140737488355264 ∧ walkT c i y u = walkT c x y v) ∧ σ = ⟨43, ls [(0, .v (.int .i64 c)), (3, sA v), (9, .v (.bool true)), (10, .v (.int .i64 (x : Int))), (11, .v (.int .i64 (y : Int))), (12, sA u), (13, .v (.int .i64 i))], lh [], blt 0⟩) (((y : Int) - x).toNat) (Ent.of [] ?_ ?_ ?_ ?_).se ⟨x, v, ⟨rfl, by omega, by omega, hv, rfl⟩, rfl⟩ ?_
  · exact (fun i hi => by rw [hnA] at hi; simp only [List.length_cons, List.length_nil] at hi ⊢; first | exact absurd hi (Nat.not_lt_zero _) | (revert i; decide))
  · (repeat (first | exact trivial | (refine And.intro ⟨(by first | trivial | (simp; first | done | fail) | exact ⟨trivial, hbel _⟩), _, rfl, (by first | exact .rfl _ | exact .nil | exact .of_eq (by simp; first | done | fail) | exact AV.wk.sh (by simp; first | done | fail) | exact .untip _ _ _)⟩ ?_)))
  · (repeat (first | exact trivial | (refine And.intro ⟨rfl, (by first | trivial | (simp; first | done | fail) | exact ⟨trivial, hbel _⟩), (by first | rfl | (simp; first | done | fail))⟩ ?_)))
  · simp [rn]
  · rintro k σ ⟨i, u, ⟨hk, hi0, hi1, hu, hw⟩, rfl⟩
    refine WP.seq ?_
    refine WP.rs hG ?_
    refine Ch.pu gdN (by exact ⟨rfl, trivial⟩) (OpS.move) (by first | exact trivial | exact ⟨rfl, trivial⟩) rfl ?_
    refine Ch.pu gdN (by exact ⟨rfl, trivial⟩) (OpS.move) (by first | exact trivial | exact ⟨rfl, trivial⟩) rfl ?_
    refine Ch.pu gdN (by exact ⟨rfl, rfl, trivial⟩) (OpS.int rfl (by first | exact wr64 (by omega) | exact rfl)) (by first | exact trivial | exact ⟨rfl, trivial⟩) rfl ?_
    refine Ch.nil ?_
    refine WP.cond rfl ?_ ?_
    · intro ht
      have ht' := of_decide_eq_true ht
      rw [walkT_go hi0 ht' (by omega)] at hw
      have hsl := wstep_length c i u
      refine WP.skip ?_
      refine WP.seq ?_
      refine WP.block ?_
      refine WP.rs hG ?_
      refine Ch.pu gdN (by exact ⟨rfl, trivial⟩) (OpS.move) (by first | exact trivial | exact ⟨rfl, trivial⟩) rfl ?_
      refine Ch.pu gdN (by exact ⟨rfl, trivial⟩) (OpS.move) (by first | exact trivial | exact ⟨rfl, trivial⟩) rfl ?_
      refine Ch.pu gdN (by exact ⟨rfl, trivial⟩) (OpS.move) (by first | exact trivial | exact ⟨rfl, trivial⟩) rfl ?_
      refine Ch.callP (step_fc hm c i u hu) gdN (by repeat (first | exact EvL.nil | (apply EvL.cons; exact rfl))) (by exact (And.intro (by first | exact .rfl _ | exact .untip _ _ _ | exact .nil | exact .func _ | exact AV.wk.sh (renL_s _ _) | exact AV.wk.sh (by simp; first | done | fail)) (And.intro (by first | exact .rfl _ | exact .untip _ _ _ | exact .nil | exact .func _ | exact AV.wk.sh (renL_s _ _) | exact AV.wk.sh (by simp; first | done | fail)) (And.intro (by first | exact .rfl _ | exact .untip _ _ _ | exact .nil | exact .func _ | exact AV.wk.sh (renL_s _ _) | exact AV.wk.sh (by simp; first | done | fail)) trivial)))) (by rfl) rfl ?_
      refine Ch.pu gdN (by exact ⟨rfl, trivial⟩) (OpS.assign) (by first | exact trivial | exact ⟨rfl, trivial⟩) rfl ?_
      refine Ch.nil ?_
      refine WP.rs hG ?_
      refine Ch.pu gdN (by exact ⟨rfl, trivial⟩) (OpS.move) (by first | exact trivial | exact ⟨rfl, trivial⟩) rfl ?_
      refine Ch.pu gdN (by exact ⟨rfl, trivial⟩) (OpS.lenS rfl) (by first | exact trivial | exact ⟨rfl, trivial⟩) rfl ?_
      refine Ch.pu gdN (by exact ⟨rfl, rfl, trivial⟩) (OpS.int (v' := .bool false) rfl (by rw [hsl]; rfl)) (by first | exact trivial | exact ⟨rfl, trivial⟩) rfl ?_
      refine Ch.nil ?_
      refine WP.cond_false rfl ?_
      refine WP.skip ?_
      refine WP.rg hG ?_
      refine Ch.pu gdN (by exact ⟨rfl, trivial⟩) (OpS.move) (by first | exact trivial | exact ⟨rfl, trivial⟩) rfl ?_
      refine Ch.pu gdN (by exact ⟨rfl, rfl, trivial⟩) (OpS.int rfl (by first | exact wr64 (by omega) | exact rfl)) (by first | exact trivial | exact ⟨rfl, trivial⟩) rfl ?_
      refine Ch.pu gdN (by exact ⟨rfl, trivial⟩) (OpS.assign) (by first | exact trivial | exact ⟨rfl, trivial⟩) rfl ?_
      refine Ch.nil ?_
      refine ⟨k - 1, _, by omega, (Ent.of [] ?_ ?_ ?_ ?_).se, i + 1, wstep c i u, ⟨by omega, by omega, by omega, by rw [hsl]; decide, hw⟩, rfl⟩
      · exact (fun i hi => by rw [hnA] at hi; simp only [List.length_cons, List.length_nil] at hi ⊢; first | exact absurd hi (Nat.not_lt_zero _) | (revert i; decide))
      · (repeat (first | exact trivial | (refine And.intro ⟨(by first | trivial | (simp; first | done | fail) | exact ⟨trivial, hbel _⟩), _, rfl, (by first | exact .rfl _ | exact .nil | exact .of_eq (by simp; first | done | fail) | exact AV.wk.sh (by simp; first | done | fail) | exact .untip _ _ _)⟩ ?_)))
      · (repeat (first | exact trivial | (refine And.intro ⟨rfl, (by first | trivial | (simp; first | done | fail) | exact ⟨trivial, hbel _⟩), (by first | rfl | (simp; first | done | fail))⟩ ?_)))
      · simp [rn]
    · intro ht
      have ht' := of_decide_eq_false ht
      rw [walkT_end (by omega)] at hw
      rw [← hw] at w1
      refine WP.exit ?_
      refine WP.rs hG ?_
      refine Ch.pu gdN (by exact ⟨rfl, trivial⟩) (OpS.move) (by first | exact trivial | exact ⟨rfl, trivial⟩) rfl ?_
      refine Ch.pu gdN (by exact ⟨rfl, trivial⟩) (OpS.move) (by first | exact trivial | exact ⟨rfl, trivial⟩) rfl ?_
      refine Ch.pu (by exact gdT rfl rfl) (by exact ⟨rfl, trivial⟩) (OpS.move) (by first | exact trivial | exact ⟨rfl, trivial⟩) rfl ?_
      refine Ch.pu (by exact gdT rfl rfl) (by exact ⟨rfl, trivial⟩) (OpS.move) (by first | exact trivial | exact ⟨rfl, trivial⟩) rfl ?_
      refine Ch.pu (by exact gdT rfl rfl) (by exact ⟨rfl, trivial⟩) (OpS.move) (by first | exact trivial | exact ⟨rfl, trivial⟩) rfl ?_
      refine Ch.pu (by exact gdT rfl rfl) (by exact ⟨rfl, trivial⟩) (OpS.move) (by first | exact trivial | exact ⟨rfl, trivial⟩) rfl ?_
      refine Ch.callP (w1) (by exact gdT rfl rfl) (by repeat (first | exact EvL.nil | (apply EvL.cons; exact rfl))) (by exact (And.intro (by first | exact .rfl _ | exact .untip _ _ _ | exact .nil | exact .func _ | exact AV.wk.sh (renL_s _ _) | exact AV.wk.sh (by simp; first | done | fail)) (And.intro (by first | exact .rfl _ | exact .untip _ _ _ | exact .nil | exact .func _ | exact AV.wk.sh (renL_s _ _) | exact AV.wk.sh (by simp; first | done | fail)) (And.intro (by first | exact .rfl _ | exact .untip _ _ _ | exact .nil | exact .func _ | exact AV.wk.sh (renL_s _ _) | exact AV.wk.sh (by simp; first | done | fail)) (And.intro (by first | exact .rfl _ | exact .untip _ _ _ | exact .nil | exact .func _ | exact AV.wk.sh (renL_s _ _) | exact AV.wk.sh (by simp; first | done | fail)) trivial))))) (by rfl) rfl ?_
      refine Ch.pu (by exact gdT rfl rfl) (by exact ⟨rfl, trivial⟩) (OpS.move) (by first | exact trivial | exact ⟨rfl, trivial⟩) rfl ?_
      refine Ch.pu (by exact gdT rfl rfl) (by exact ⟨rfl, rfl, trivial⟩) (OpS.strEqT) (by first | exact trivial | exact ⟨rfl, trivial⟩) rfl ?_
      refine Ch.pu gdN (by first | exact ⟨rfl, rfl, trivial⟩ | exact ⟨rfl, rfl, rfl, trivial⟩) (OpS.pickT) (by first | exact trivial | exact ⟨rfl, trivial⟩) rfl ?_
      refine Ch.pu gdN (by exact ⟨rfl, trivial⟩) (OpS.assign) (by first | exact trivial | exact ⟨rfl, trivial⟩) rfl ?_
      refine Ch.nil ?_
      refine WP.ret (Ret.one rfl (by first | exact .rfl _ | exact .nil | exact .of_eq (by simp; first | done | fail) | exact AV.wk.sh (by simp; first | done | fail) | exact .untip _ _ _) (by first | trivial | simp [AV.bel]) hnA)
theorem wotsEnds_fc (hm : ShaIn G) (s : Txw) (leaf : Int) (msg : Txw) (hv : s.length ≤ 140737488355264) (hv2 : msg.length ≤ 140737488355264) : FC Tryd.prog G 9 [sA s, .v (.int .i64 leaf), sA msg] [] (.v (.bool true)) [] := by
  have hp := pub_fc hm s leaf hv
  have hg := sign_fc hm s leaf msg hv hv2
  have hgl := signT_length s leaf msg
  have hd := digits_fc (G := G) hm msg hv2
  have hdl := digitsT_length msg
  have htag := tag_fc hm 4 (endsL (pubF s leaf) 10) (pub_in s leaf)
  rw [← pubT_eq, endsL_length] at htag
  have hone := ends_one s leaf msg
  have hel := el_lt msg
  obtain ⟨g, hgd⟩ : ∃ g, g = signT s leaf msg := ⟨_, rfl⟩
  obtain ⟨d, hdd⟩ : ∃ d, d = digitsT msg := ⟨_, rfl⟩
  rw [← hgd] at hg hgl
  rw [← hdd] at hd hdl hel
  rw [← hgd, ← hdd] at hone
  refine FC.of_wp [6] Tryd.func9 rfl rfl rfl rfl (by first | trivial | (simp; first | done | fail) | exact ⟨trivial, hbel _⟩) (by first | trivial | (simp; first | done | fail) | exact ⟨trivial, hbel _⟩) (by exact Nat.le_of_ble_eq_true rfl) ?_
  intro A hG hnA hAB
  unfold start
  refine WP.rs hG ?_
  refine Ch.pu gdN (by exact ⟨rfl, trivial⟩) (OpS.assign) (by first | exact trivial | exact ⟨rfl, trivial⟩) rfl ?_
  refine Ch.nil ?_
  refine WP.rs hG ?_
  refine Ch.callP (awake_fc hm) gdN (by repeat (first | exact EvL.nil | (apply EvL.cons; exact rfl))) (by exact trivial) (by rfl) rfl ?_
  refine Ch.pu gdN (by exact ⟨rfl, trivial⟩) (OpS.assign) (by first | exact trivial | exact ⟨rfl, trivial⟩) rfl ?_
  refine Ch.nil ?_
  refine WP.rs hG ?_
  refine Ch.pu gdN (by exact ⟨rfl, trivial⟩) (OpS.move) (by first | exact trivial | exact ⟨rfl, trivial⟩) rfl ?_
  refine Ch.pu gdN (by exact ⟨rfl, trivial⟩) (OpS.move) (by first | exact trivial | exact ⟨rfl, trivial⟩) rfl ?_
  refine Ch.pu gdN (by exact ⟨rfl, trivial⟩) (OpS.move) (by first | exact trivial | exact ⟨rfl, trivial⟩) rfl ?_
  refine Ch.callP (hg) gdN (by repeat (first | exact EvL.nil | (apply EvL.cons; exact rfl))) (by exact (And.intro (by first | exact .rfl _ | exact .untip _ _ _ | exact .nil | exact .func _ | exact AV.wk.sh (renL_s _ _) | exact AV.wk.sh (by simp; first | done | fail)) (And.intro (by first | exact .rfl _ | exact .untip _ _ _ | exact .nil | exact .func _ | exact AV.wk.sh (renL_s _ _) | exact AV.wk.sh (by simp; first | done | fail)) (And.intro (by first | exact .rfl _ | exact .untip _ _ _ | exact .nil | exact .func _ | exact AV.wk.sh (renL_s _ _) | exact AV.wk.sh (by simp; first | done | fail)) trivial)))) (by rfl) rfl ?_
  refine Ch.pu gdN (by exact ⟨rfl, trivial⟩) (OpS.assign) (by first | exact trivial | exact ⟨rfl, trivial⟩) rfl ?_
  refine Ch.nil ?_
  refine WP.rs hG ?_
  refine Ch.pu gdN (by exact ⟨rfl, trivial⟩) (OpS.move) (by first | exact trivial | exact ⟨rfl, trivial⟩) rfl ?_
  refine Ch.callS (hd) gdN (by repeat (first | exact EvL.nil | (apply EvL.cons; exact rfl))) (by exact (And.intro (by first | exact .rfl _ | exact .untip _ _ _ | exact .nil | exact .func _ | exact AV.wk.sh (renL_s _ _) | exact AV.wk.sh (by simp; first | done | fail)) trivial)) (by first | rfl | simp) rfl ?_
  refine Ch.pu gdN (by exact ⟨rfl, trivial⟩) (OpS.assign) (by first | exact trivial | exact ⟨rfl, trivial⟩) rfl ?_
  refine Ch.nil ?_
  refine WP.seq ?_
  refine WP.rs hG ?_
  refine Ch.pu gdN (by exact ⟨rfl, trivial⟩) (OpS.move) (by first | exact trivial | exact ⟨rfl, trivial⟩) rfl ?_
  refine Ch.pu gdN (by exact ⟨rfl, trivial⟩) (OpS.not) (by first | exact trivial | exact ⟨rfl, trivial⟩) rfl ?_
  refine Ch.pu gdN (by exact ⟨rfl, trivial⟩) (OpS.move) (by first | exact trivial | exact ⟨rfl, trivial⟩) rfl ?_
  refine Ch.pu (by exact gdT rfl rfl) (by exact ⟨rfl, trivial⟩) (OpS.move) (by first | exact trivial | exact ⟨rfl, trivial⟩) rfl ?_
  refine Ch.pu (by exact gdT rfl rfl) (by exact ⟨rfl, trivial⟩) (OpS.lenS rfl) (by first | exact trivial | exact ⟨rfl, trivial⟩) rfl ?_
  refine Ch.pu (by exact gdT rfl rfl) (by exact ⟨rfl, rfl, trivial⟩) (OpS.int (v' := .bool false) rfl (by rw [hgl]; rfl)) (by first | exact trivial | exact ⟨rfl, trivial⟩) rfl ?_
  refine Ch.pu gdN (by first | exact ⟨rfl, rfl, trivial⟩ | exact ⟨rfl, rfl, rfl, trivial⟩) (OpS.pickF) (by first | exact trivial | exact ⟨rfl, trivial⟩) rfl ?_
  refine Ch.pu gdN (by exact ⟨rfl, trivial⟩) (OpS.move) (by first | exact trivial | exact ⟨rfl, trivial⟩) rfl ?_
  refine Ch.pu (by exact gdT rfl rfl) (by exact ⟨rfl, trivial⟩) (OpS.move) (by first | exact trivial | exact ⟨rfl, trivial⟩) rfl ?_
  refine Ch.pu (by exact gdT rfl rfl) (by exact ⟨rfl, trivial⟩) (OpS.len rfl) (by first | exact trivial | exact ⟨rfl, trivial⟩) rfl ?_
  refine Ch.pu (by exact gdT rfl rfl) (by exact ⟨rfl, rfl, trivial⟩) (OpS.int (v' := .bool false) rfl (by rw [hdl]; rfl)) (by first | exact trivial | exact ⟨rfl, trivial⟩) rfl ?_
  refine Ch.pu gdN (by first | exact ⟨rfl, rfl, trivial⟩ | exact ⟨rfl, rfl, rfl, trivial⟩) (OpS.pickF) (by first | exact trivial | exact ⟨rfl, trivial⟩) rfl ?_
  refine Ch.nil ?_
  refine WP.cond_false rfl ?_
  refine WP.skip ?_
  refine WP.rs hG ?_
  refine Ch.al gdN (by exact ⟨rfl, trivial⟩) (OpS.assignTip 0 9 1) (by first | exact trivial | exact ⟨rfl, trivial⟩) (by first | exact trivial | exact ⟨rfl, trivial⟩ | exact ⟨rfl, rfl, trivial⟩) rfl ?_
  refine Ch.nil ?_
  refine WP.seq ?_
  refine WP.rs hG ?_
  refine Ch.pu gdN (by exact ⟨rfl, trivial⟩) (OpS.assign) (by first | exact trivial | exact ⟨rfl, trivial⟩) rfl ?_
  refine Ch.nil ?_
  refine WP.block ?_
  refine WP.loop (fun k σ => ∃ m : Nat, m + k = 10 ∧ σ = ⟨57, ls [(0, sA s), (1, .v (.int .i64 leaf)), (8, sA g), (9, .sl none d.length (d.map nA)), (10, .sl (some 0) m ((endsL (pubF s leaf) m).map sA)), (11, .v (.int .i64 (m : Int)))], lh [(0, .tip 9 1 m)], blt 1⟩) (10) (Ent.of [] ?_ ?_ ?_ ?_).se ⟨0, by omega, rfl⟩ ?_
  · exact (fun i hi => by rw [hnA] at hi; simp only [List.length_cons, List.length_nil] at hi ⊢; first | exact absurd hi (Nat.not_lt_zero _) | (revert i; decide))
  · (repeat (first | exact trivial | (refine And.intro ⟨(by first | trivial | (simp; first | done | fail) | exact ⟨trivial, hbel _⟩), _, rfl, (by first | exact .rfl _ | exact .nil | exact .of_eq (by simp [endsL]; first | done | fail) | exact AV.wk.sh (by simp [endsL]; first | done | fail) | exact .untip _ _ _)⟩ ?_)))
  · (repeat (first | exact trivial | (refine And.intro ⟨rfl, (by first | trivial | (simp; first | done | fail) | exact ⟨trivial, hbel _⟩), (by first | rfl | (simp [endsL]; first | done | fail))⟩ ?_)))
  · simp [rn]
  · rintro k σ ⟨m, hm', rfl⟩
    have hes := endsL_succ (pubF s leaf) m
    have hll := endsL_length (pubF s leaf) m
    refine WP.seq ?_
    refine WP.rs hG ?_
    refine Ch.pu gdN (by exact ⟨rfl, trivial⟩) (OpS.move) (by first | exact trivial | exact ⟨rfl, trivial⟩) rfl ?_
    refine Ch.pu gdN (by exact ⟨rfl, rfl, trivial⟩) (OpS.int rfl (by first | exact wr64 (by omega) | exact rfl)) (by first | exact trivial | exact ⟨rfl, trivial⟩) rfl ?_
    refine Ch.nil ?_
    refine WP.cond rfl ?_ ?_
    · intro ht
      have ht' := of_decide_eq_true ht
      have hw := walk_fc hm m (nget d m) 15 ((g.drop (16 * m)).take 16) (by rw [List.length_take]; omega) (i64_nat (hel m)) (by decide)
      rw [hone m (by omega)] at hw
      refine WP.skip ?_
      refine WP.seq ?_
      refine WP.block ?_
      refine WP.rgD (by kernel_rfl) hG ?_
      refine Ch.pu gdN (by exact ⟨rfl, trivial⟩) (OpS.move) (by first | exact trivial | exact ⟨rfl, trivial⟩) rfl ?_
      refine Ch.pu gdN (by exact ⟨rfl, trivial⟩) (OpS.move) (by first | exact trivial | exact ⟨rfl, trivial⟩) rfl ?_
      refine Ch.pu gdN (by exact ⟨rfl, trivial⟩) (OpS.move) (by first | exact trivial | exact ⟨rfl, trivial⟩) rfl ?_
      refine Ch.pu gdN (by exact ⟨rfl, trivial⟩) (OpS.move) (by first | exact trivial | exact ⟨rfl, trivial⟩) rfl ?_
      refine Ch.pu gdN (by exact ⟨rfl, rfl, trivial⟩) (OpS.indexM rfl rfl rfl (by first | with_reducible exact Int.toNat_natCast _ | with_reducible exact tnLit _ _ | with_reducible exact tnLitA _ _ | with_reducible exact tnL _ | with_reducible exact tnA _ _ | with_reducible exact tnM _ _ | with_reducible exact tnMA _ _ _ | exact rfl) (by omega) (by omega) (by first | rfl | (simp; done) | omega)) (by first | exact trivial | exact ⟨rfl, trivial⟩) rfl ?_
      refine Ch.pu gdN (by exact ⟨rfl, trivial⟩) (OpS.loadS rfl rfl) (by first | exact trivial | exact ⟨rfl, trivial⟩) rfl ?_
      refine Ch.pu gdN (by exact ⟨rfl, trivial⟩) (OpS.move) (by first | exact trivial | exact ⟨rfl, trivial⟩) rfl ?_
      refine Ch.pu gdN (by exact ⟨rfl, trivial⟩) (OpS.move) (by first | exact trivial | exact ⟨rfl, trivial⟩) rfl ?_
      refine Ch.pu gdN (by exact ⟨rfl, rfl, trivial⟩) (OpS.int rfl (by first | exact wr64 (by omega) | exact rfl)) (by first | exact trivial | exact ⟨rfl, trivial⟩) rfl ?_
      refine Ch.pu gdN (by exact ⟨rfl, trivial⟩) (OpS.move) (by first | exact trivial | exact ⟨rfl, trivial⟩) rfl ?_
      refine Ch.pu gdN (by exact ⟨rfl, rfl, trivial⟩) (OpS.int rfl (by first | exact wr64 (by omega) | exact rfl)) (by first | exact trivial | exact ⟨rfl, trivial⟩) rfl ?_
      refine Ch.pu gdN (by exact ⟨rfl, rfl, trivial⟩) (OpS.int rfl (by first | exact wr64 (by omega) | exact rfl)) (by first | exact trivial | exact ⟨rfl, trivial⟩) rfl ?_
      refine Ch.pu gdN (by exact ⟨rfl, rfl, rfl, trivial⟩) (OpS.slLHk (16 * m) 16 rfl (by omega) (by omega) (by omega) (by omega) (by omega)) (by first | exact trivial | exact ⟨rfl, trivial⟩) rfl ?_
      refine Ch.callP (hw) gdN (by repeat (first | exact EvL.nil | (apply EvL.cons; exact rfl))) (by exact (And.intro (by first | exact .rfl _ | exact .untip _ _ _ | exact .nil | exact .func _ | exact AV.wk.sh (renL_s _ _) | exact AV.wk.sh (by simp; first | done | fail)) (And.intro (by first | exact .rfl _ | exact .untip _ _ _ | exact .nil | exact .func _ | exact AV.wk.sh (renL_s _ _) | exact AV.wk.sh (by simp; first | done | fail)) (And.intro (by first | exact .rfl _ | exact .untip _ _ _ | exact .nil | exact .func _ | exact AV.wk.sh (renL_s _ _) | exact AV.wk.sh (by simp; first | done | fail)) (And.intro (by first | exact .rfl _ | exact .untip _ _ _ | exact .nil | exact .func _ | exact AV.wk.sh (renL_s _ _) | exact AV.wk.sh (by simp; first | done | fail)) trivial))))) (by rfl) rfl ?_
      refine Ch.pup gdN (by repeat (first | exact EvP.nil | (apply EvP.cons; exact rfl))) (OpS.slice1 (ys := ([pubF s leaf m] : List Txw).map sA) rfl rfl rfl rfl rfl rfl (by rfl) rfl (by rfl)) rfl ?_
      refine Ch.al gdN (by exact ⟨rfl, rfl, trivial⟩) (OpS.append (sz := 1) (bb := 16) 1 rfl rfl rfl rfl rfl (by decide) (SrcA.sl rfl (by simp)) (by first | (simp; done) | (simp; assumption)) (by simp) (by unfold maxLen; omega) rfl (by omega)) (by first | exact trivial | exact ⟨rfl, trivial⟩) (by first | exact trivial | exact ⟨rfl, trivial⟩ | exact ⟨rfl, rfl, trivial⟩) rfl ?_
      refine Ch.pu gdN (by exact ⟨rfl, trivial⟩) (OpS.assign) (by first | exact trivial | exact ⟨rfl, trivial⟩) rfl ?_
      refine Ch.nilD ?_ (by kernel_rfl)
      refine WP.rg hG ?_
      refine Ch.pu gdN (by exact ⟨rfl, trivial⟩) (OpS.move) (by first | exact trivial | exact ⟨rfl, trivial⟩) rfl ?_
      refine Ch.pu gdN (by exact ⟨rfl, rfl, trivial⟩) (OpS.int rfl (by first | exact wr64 (by omega) | exact rfl)) (by first | exact trivial | exact ⟨rfl, trivial⟩) rfl ?_
      refine Ch.pu gdN (by exact ⟨rfl, trivial⟩) (OpS.assign) (by first | exact trivial | exact ⟨rfl, trivial⟩) rfl ?_
      refine Ch.nil ?_
      refine ⟨k - 1, _, by omega, (Ent.of [1] ?_ ?_ ?_ ?_).se, m + 1, by omega, rfl⟩
      · exact (fun i hi => by rw [hnA] at hi; simp only [List.length_cons, List.length_nil] at hi ⊢; first | exact absurd hi (Nat.not_lt_zero _) | (revert i; decide))
      · (repeat (first | exact trivial | (refine And.intro ⟨(by first | trivial | (simp; first | done | fail) | exact ⟨trivial, hbel _⟩), _, rfl, (by first | exact .rfl _ | exact .nil | exact .of_eq (by simp [hes]; first | done | fail) | exact AV.wk.sh (by simp [hes]; first | done | fail) | exact .untip _ _ _)⟩ ?_)))
      · (repeat (first | exact trivial | (refine And.intro ⟨rfl, (by first | trivial | (simp; first | done | fail) | exact ⟨trivial, hbel _⟩), (by first | rfl | (simp [hes]; first | done | fail))⟩ ?_)))
      · simp [rn]
    · intro ht
      have ht' := of_decide_eq_false ht
      obtain rfl : m = 10 := by omega
      refine WP.exit ?_
      refine WP.rs hG ?_
      refine Ch.pu gdN (by exact ⟨rfl, trivial⟩) (OpS.move) (by first | exact trivial | exact ⟨rfl, trivial⟩) rfl ?_
      refine Ch.pu gdN (by exact ⟨rfl, trivial⟩) (OpS.move) (by first | exact trivial | exact ⟨rfl, trivial⟩) rfl ?_
      refine Ch.callP (hp) gdN (by repeat (first | exact EvL.nil | (apply EvL.cons; exact rfl))) (by exact (And.intro (by first | exact .rfl _ | exact .untip _ _ _ | exact .nil | exact .func _ | exact AV.wk.sh (renL_s _ _) | exact AV.wk.sh (by simp; first | done | fail)) (And.intro (by first | exact .rfl _ | exact .untip _ _ _ | exact .nil | exact .func _ | exact AV.wk.sh (renL_s _ _) | exact AV.wk.sh (by simp; first | done | fail)) trivial))) (by rfl) rfl ?_
      refine Ch.pu gdN (by exact ⟨rfl, trivial⟩) (OpS.move) (by first | exact trivial | exact ⟨rfl, trivial⟩) rfl ?_
      refine Ch.callP (htag) gdN (by repeat (first | exact EvL.nil | (apply EvL.cons; exact rfl))) (by exact (And.intro (by first | exact .rfl _ | exact .untip _ _ _ | exact .nil | exact .func _ | exact AV.wk.sh (renL_s _ _) | exact AV.wk.sh (by simp; first | done | fail)) (And.intro (by first | exact .rfl _ | exact .untip _ _ _ | exact .nil | exact .func _ | exact AV.wk.sh (renL_s _ _) | exact AV.wk.sh (by simp; first | done | fail)) trivial))) (by rfl) rfl ?_
      refine Ch.pu gdN (by exact ⟨rfl, rfl, trivial⟩) (OpS.strEqT) (by first | exact trivial | exact ⟨rfl, trivial⟩) rfl ?_
      refine Ch.pu gdN (by exact ⟨rfl, trivial⟩) (OpS.assign) (by first | exact trivial | exact ⟨rfl, trivial⟩) rfl ?_
      refine Ch.nil ?_
      refine WP.ret (Ret.one rfl (by first | exact .rfl _ | exact .nil | exact .of_eq (by simp; first | done | fail) | exact AV.wk.sh (by simp; first | done | fail) | exact .untip _ _ _) (by first | trivial | simp [AV.bel]) hnA)
end
end Go.Proofs.YtmmoadhjlgbmhaaDoor.E
end
section
/- What a row's list of package-level variables gives: a table's cells. -/
namespace Go.Proofs.YtmmoadhjlgbmhaaDoor.V
open Go Go.RowKit

theorem laid_var {P : Program} {W : World} {name : String} {k : IntKind} {zs : List Int} {g : Nat} {t e : TypeId} {n : Nat}
    (hg : P.globalNamed name = some g) (hty : (P.globals[g]?).map (·.type) = some t) (ht : P.underlying t = some (.array n e)) (he : P.underlying e = some (.int k)) (hce : P.cellsOf e = 1) (hct : P.cellsOf t = n) :
    ∀ (laid : List (String × DataW Unit)) (ps : List MemPlace), DataW.LaidVars P W laid ps → (name, Lib.tabData k zs) ∈ laid →
      W.var? P name = some (zs.map fun z => Value.int k z).toArray ∧ ∀ i, i < zs.length → MemPlace.cell g i ∈ ps := by
  intro laid
  induction laid with
  | nil => intro ps _ h; cases h
  | cons x r ih =>
    intro ps hl hm
    obtain ⟨g', t', cs, fuel, p, q, hg', ht', hvar, hd, hr, rfl⟩ := hl
    rcases List.mem_cons.1 hm with rfl | hm
    · obtain rfl := Option.some.inj (hg.symm.trans hg')
      obtain rfl := Option.some.inj (hty.symm.trans ht')
      have hcs := Lib.cells_of_tab ht he hce hct hd
      refine ⟨by rw [hvar, ← hcs], fun i hi => ?_⟩
      have hsz : cs.size = zs.length := by rw [← Array.length_toList, hcs, List.length_map]
      refine List.mem_append_left _ (List.mem_append_left _ ?_)
      simpa [MemPlace.row, hsz] using hi
    · obtain ⟨h1, h2⟩ := ih q hr hm
      exact ⟨h1, fun i hi => List.mem_append_right _ (h2 i hi)⟩

theorem laid_tab {P : Program} {W : World} {laid : List (String × DataW Unit)} (h : laidMetH P laid W) {name : String} {k : IntKind} {zs : List Int} {g : Nat} {t e : TypeId} {n : Nat}
    (hm : (name, Lib.tabData k zs) ∈ laid) (h0 : 0 < zs.length)
    (hg : P.globalNamed name = some g) (hty : (P.globals[g]?).map (·.type) = some t) (ht : P.underlying t = some (.array n e)) (he : P.underlying e = some (.int k)) (hce : P.cellsOf e = 1) (hct : P.cellsOf t = n) :
    ∃ T, W.heap[g]? = some (.cells (zs.map fun z => Value.int k z).toArray T (0, 0)) := by
  obtain ⟨⟨ps, hv, _, hr⟩, _⟩ := laidMetH_iff.1 h
  obtain ⟨h1, h2⟩ := laid_var hg hty ht he hce hct _ ps hv (List.mem_filter.2 ⟨hm, rfl⟩)
  obtain ⟨⟨c, T, hc⟩, _⟩ := hr g 0 (h2 0 h0)
  refine ⟨T, ?_⟩
  rw [hc]
  have : W.var? P name = some c := by simp [World.var?, hg, hc]
  rw [h1] at this
  injection this with this
  rw [this]
end Go.Proofs.YtmmoadhjlgbmhaaDoor.V
end
section
/- How much a list of texts holds. -/
namespace Go.Proofs.YtmmoadhjlgbmhaaDoor.V
open Go Go.RowKit
/-- how much a list of texts holds -/
def bulkL (ps : List (List UInt8)) : Nat := (ps.map (·.length + 1)).sum
theorem bulkL_cons (p : List UInt8) (ps : List (List UInt8)) : bulkL (p :: ps) = p.length + 1 + bulkL ps := rfl
end Go.Proofs.YtmmoadhjlgbmhaaDoor.V
end
section
/- What the claims of this seat share: the tables out of a row's list, a world for the witness, the step's end. -/
namespace Go.Proofs.YtmmoadhjlgbmhaaDoor.V
open Go Go.RowKit Go.WideShapes Go.ChangeShapes Go.ChangeAt

theorem own : ownKnob Tryd.prog.godebug = none := by kernel_rfl
theorem laidOut : laidOutB Tryd.prog = true := by kernel_rfl

theorem k_data : (Rows.laid_voussoir_sha_k : DataW Unit) = Lib.tabData .u32 (kTab.map U32) := by kernel_rfl
theorem first_data : (Rows.laid_voussoir_sha_first : DataW Unit) = Lib.tabData .u32 (first.words.map U32) := by kernel_rfl
theorem k_global : Tryd.prog.globalNamed "voussoir/sha.k" = some 1 := by kernel_rfl
theorem first_global : Tryd.prog.globalNamed "voussoir/sha.first" = some 0 := by kernel_rfl

theorem tabs_of {W : World} {laid : List (String × DataW Unit)} (h : laidMetH Tryd.prog laid W) (h1 : ("voussoir/sha.k", Rows.laid_voussoir_sha_k) ∈ laid) (h2 : ("voussoir/sha.first", Rows.laid_voussoir_sha_first) ∈ laid) : Tabs W := by
  rw [k_data] at h1
  rw [first_data] at h2
  obtain ⟨T1, hk⟩ := laid_tab h h1 (by decide) k_global (t := 84) (by kernel_rfl) Tryd.underlying84 Tryd.underlying67 (by kernel_rfl) (by kernel_rfl)
  obtain ⟨T2, hf⟩ := laid_tab h h2 (by decide) first_global (t := 69) (by kernel_rfl) Tryd.underlying69 Tryd.underlying67 (by kernel_rfl) (by kernel_rfl)
  refine ⟨⟨(Array.getElem?_eq_some_iff.1 hk).1, (Array.getElem?_eq_some_iff.1 hf).1⟩, fun i hi => cell_at hk ?_, T2, hf⟩
  have hi' : i < kTab.length := hi
  simp [lget, hi', wv]

/-- the cells of both tables, for the witness -/
def kCells : Array Value := (kTab.map wv).toArray
/-- a world in which the tables hold what their initialisers lay -/
def layK : Obj → Obj
  | .cells _ t frozen => .cells kCells t frozen
  | o => o
def layFirst : Obj → Obj
  | .cells _ t frozen => .cells first.cells t frozen
  | o => o
noncomputable def laidWorld (os : Os) : World :=
  { World.holding Tryd.prog os ⟨#[], #[], []⟩ with heap := ((World.holding Tryd.prog os ⟨#[], #[], []⟩).heap.modify 1 layK).modify 0 layFirst }

section
variable {H : Type} {enc : TypeId × Value → H} {P : Program}
/-- the row's last step where of the world behind the call 'Below' alone is known -/
theorem post_of_below {f : Func} {s : ChangeSpec} {apart fresh handsOn again : Bool} {W W' : World} {args : Array Value} {v : Value} {ds gs : List (DataW H)} {before pa pv : List MemPlace}
    (hW : DataW.Whole enc P f.params.toList s.vars apart W args.toList ds gs before)
    (hres : ∀ (b : Nat) (sp : Nat → Bool) (hd : Bool), DataW.TrodAll enc P W' b sp hd f.resultTypes.toList (v.resultList f.resultTypes.size) (s.fn H (ds ++ gs)).results [])
    (hargs : ∀ sp : Nat → Bool, (∀ p ∈ before, sp p.block = true) → DataW.TrodAll enc P W' 0 sp true f.params.toList args.toList (s.fn H (ds ++ gs)).args pa)
    (hvars : ∀ sp : Nat → Bool, (∀ p ∈ before, sp p.block = true) → DataW.TrodVars enc P W' sp s.vars (s.fn H (ds ++ gs)).vars pv)
    (hps : before = pa ++ pv) (hb : Below W.heap.size W W')
    (hok : ∀ (j : Nat) (t : TypeId) (r : Value), f.resultTypes[j]? = some t → (v.resultList f.resultTypes.size)[j]? = some r → Value.okWide P W' .any 0 t r) :
    s.post enc P f apart fresh handsOn again W args v W' := by
  have hlt : ∀ p ∈ before, p.block < W.heap.size := fun p hp => hW.lt p hp
  have hold : ∀ p ∈ before, (fun b => decide (b < W.heap.size)) p.block = true := fun p hp => by simpa using hlt p hp
  refine ⟨ds, gs, before, [], pa, pv, hW, hres _ _ _, hargs _ hold, hvars _ hold, World.keptBut_mono (fun p hp => ⟨hp, ?_⟩) (hb.frame (· ∈ before)), fun _ => ?_⟩
  · rw [hps, List.mem_append] at hp
    exact Or.inr hp
  · obtain ⟨_, _, _, _, _, hz, hn⟩ := hW
    refine ⟨hok, _, _, ([] ++ pa) ++ pv, ⟨[] ++ pa, pv, trodAll_append (hargs _ (fun _ _ => rfl)) (hres _ _ _), hvars _ (fun _ _ => rfl), rfl, ?_, ?_⟩, ?_⟩
    · intro b off hp
      have hin : MemPlace.cell b off ∈ before := by rw [hps]; simpa using hp
      rw [hb.frozen (hlt _ hin)]
      exact hz b off hin
    · intro ha
      have := hn ha
      rw [hps] at this
      simpa using this
    · intro p hp _
      rw [hps]
      simpa using hp
end

/-- an argument reads behind the call as it read before -/
theorem stays {H : Type} {enc : TypeId × Value → H} {W W' : World} {t : TypeId} {v : Value} {d : DataW H} {ps : List MemPlace} (hr : Tryd.prog.readableRec t = true) (hrow : t < Tryd.prog.types.size)
    (h : DataW.Trod enc Tryd.prog W 0 (fun _ => true) true t v d ps) (hb : Below W.heap.size W W') (hlt : ∀ x ∈ ps, x.block < W.heap.size) (sp : Nat → Bool) (hsp : ∀ x ∈ ps, sp x.block = true) :
    DataW.Trod enc Tryd.prog W' 0 sp true t v d ps := WideElems.Trod_stays laidOut hr hrow h (fun x hx => hb.same (hlt x hx)) hsp

theorem bulk_strs {H : Type} (l : List ByteArray) : Rows.uptoBulkAll (Go.ChangeShapes.strs l : List (DataW H)) = bulkL (l.map (·.data.toList)) := by
  induction l with
  | nil => rfl
  | cons s l ih =>
    have : Rows.uptoBulkAll (Go.ChangeShapes.strs (s :: l) : List (DataW H)) = s.data.toList.length + 1 + Rows.uptoBulkAll (Go.ChangeShapes.strs l : List (DataW H)) := rfl
    rw [this, ih]
    rfl

/-- a list of texts among the arguments -/
theorem read_strs {H : Type} {enc : TypeId × Value → H} {W : World} {v : Value} {d : DataW H} {ps : List MemPlace}
    (hval : ∃ a l c, v = .slice a l c) (h : DataW.Trod enc Tryd.prog W 0 (fun _ => true) true 37 v d ps) : ∃ ss, Strs W v ss ∧ bulkL ss + 1 ≤ Rows.uptoBulk d := by
  obtain ⟨fuel, hf⟩ := h
  obtain ⟨a0, l0, c0, rfl⟩ := hval
  rw [show (Value.slice a0 l0 c0).cells.toList = [Value.slice a0 l0 c0] from rfl] at hf
  rcases open_strings Tryd.underlying37 Tryd.underlying9 strcells hf with ⟨hcs, hx⟩ | ⟨a, len, cap, ss, hcs, _, hl, hm, hz, hx, hcell, hsz⟩
  · injection hcs with hv
    injection hx with hd _
    rw [hv, hd]
    clear hv hd hf
    exact ⟨[], Strs.nil W, Nat.le_refl _⟩
  · injection hcs with hv
    injection hx with hd _
    rw [hv, hd]
    clear hv hd hf
    simp only [if_true] at hz
    refine ⟨(ss.take len).map (·.data.toList), ⟨some a, cap, ?_, ?_, hm, fun i hi => ?_⟩, ?_⟩
    · rw [List.length_map, List.length_take, Nat.min_eq_left (by omega)]
    · rw [List.length_map, List.length_take]; omega
    · have hi' : i < len := by rw [List.length_map, List.length_take] at hi; omega
      have h0 := hcell 0 (by omega)
      have hii := hcell i (by omega)
      obtain ⟨b, off, spot⟩ := a
      have hs : spot = none := by
        cases spot with
        | none => rfl
        | some x =>
          rw [show ((⟨b, off, some x⟩ : Addr).add 0) = ⟨b, off, some x⟩ from rfl] at h0
          unfold World.cell? at h0
          split at h0 <;> simp at h0
      subst hs
      have hadd : (⟨b, off, none⟩ : Addr).add i = ⟨b, off + i, none⟩ := by unfold Addr.add; split <;> simp_all
      rw [hadd] at hii
      refine ⟨b, off, rfl, ?_, ?_⟩
      · unfold World.cell? at hii
        split at hii
        · rename_i he
          exact (Array.getElem?_eq_some_iff.1 he).1
        · simp at hii
      · rw [hii]
        have h1 : i < ss.length := by omega
        have : sget ((ss.take len).map (·.data.toList)) i = ss[i].data.toList := by
          simp [sget, hi', h1, List.getElem?_take]
        rw [this, sv]
        simp [List.getD, h1, B]
    · have : Rows.uptoBulk (DataW.slice (Go.ChangeShapes.strs (ss.take len)) (Go.ChangeShapes.strs (ss.drop len)) : DataW H) = Rows.uptoBulkAll (Go.ChangeShapes.strs (ss.take len) : List (DataW H)) + Rows.uptoBulkAll (Go.ChangeShapes.strs (ss.drop len) : List (DataW H)) + 1 := rfl
      rw [this, bulk_strs]
      omega
end Go.Proofs.YtmmoadhjlgbmhaaDoor.V
end
section
/- For the claims that use the document's answer too: all four tables out of a row's list, a world for the witness. -/
namespace Go.Proofs.YtmmoadhjlgbmhaaDoor.E
open Go Go.RowKit Go.WideShapes Go.ChangeShapes Go.ChangeAt Go.Proofs.YtmmoadhjlgbmhaaDoor.V

def tabB : List (Nat × Array Value) := [(3, kArr), (1, kArr), (0, first.cells)]
def tabR : List (Nat × Array Value) := (2, first.cells) :: tabB
def RB (w : World) : Prop := ∀ x ∈ tabB, ∃ T, w.heap[x.1]? = some (.cells x.2 T (0, 0))
def RT (w : World) : Prop := ∀ x ∈ tabR, ∃ T, w.heap[x.1]? = some (.cells x.2 T (0, 0))
theorem shaInB : ShaIn tabB := ⟨by simp [tabB], by simp [tabB]⟩
theorem shaInR : ShaIn tabR := ⟨by simp [tabR, tabB], by simp [tabR, tabB]⟩
theorem kInB : (3, kArr) ∈ tabB := by simp [tabB]
theorem kInR : (3, kArr) ∈ tabR := by simp [tabR, tabB]
theorem fInR : (2, first.cells) ∈ tabR := by simp [tabR]
theorem rk_data : (Rows.laid_voussoir_voussoirref01_k : DataW Unit) = Lib.tabData .u32 (kTab.map U32) := by kernel_rfl
theorem rfirst_data : (Rows.laid_voussoir_voussoirref01_first : DataW Unit) = Lib.tabData .u32 (first.words.map U32) := by kernel_rfl
theorem rk_global : Tryd.prog.globalNamed "voussoir/voussoirref01.k" = some 3 := by kernel_rfl
theorem rfirst_global : Tryd.prog.globalNamed "voussoir/voussoirref01.first" = some 2 := by kernel_rfl
theorem kmap : ((kTab.map U32).map fun z => Value.int .u32 z).toArray = kArr := by rw [List.map_map]; rfl

theorem tabB_of {W : World} {laid : List (String × DataW Unit)} (h : laidMetH Tryd.prog laid W) (h1 : ("voussoir/sha.k", Rows.laid_voussoir_sha_k) ∈ laid) (h2 : ("voussoir/sha.first", Rows.laid_voussoir_sha_first) ∈ laid)
    (h3 : ("voussoir/voussoirref01.k", Rows.laid_voussoir_voussoirref01_k) ∈ laid) : RB W := by
  rw [k_data] at h1
  rw [first_data] at h2
  rw [rk_data] at h3
  obtain ⟨T1, hk⟩ := laid_tab h h1 (by decide) k_global (t := 84) (by kernel_rfl) Tryd.underlying84 Tryd.underlying67 (by kernel_rfl) (by kernel_rfl)
  obtain ⟨T2, hf⟩ := laid_tab h h2 (by decide) first_global (t := 69) (by kernel_rfl) Tryd.underlying69 Tryd.underlying67 (by kernel_rfl) (by kernel_rfl)
  obtain ⟨T3, hk'⟩ := laid_tab h h3 (by decide) rk_global (t := 84) (by kernel_rfl) Tryd.underlying84 Tryd.underlying67 (by kernel_rfl) (by kernel_rfl)
  rw [kmap] at hk hk'
  intro x hx
  simp only [tabB, List.mem_cons, List.not_mem_nil, or_false] at hx
  rcases hx with rfl | rfl | rfl
  · exact ⟨T3, hk'⟩
  · exact ⟨T1, hk⟩
  · exact ⟨T2, hf⟩
theorem tabR_of {W : World} {laid : List (String × DataW Unit)} (h : laidMetH Tryd.prog laid W) (h1 : ("voussoir/sha.k", Rows.laid_voussoir_sha_k) ∈ laid) (h2 : ("voussoir/sha.first", Rows.laid_voussoir_sha_first) ∈ laid)
    (h3 : ("voussoir/voussoirref01.k", Rows.laid_voussoir_voussoirref01_k) ∈ laid) (h4 : ("voussoir/voussoirref01.first", Rows.laid_voussoir_voussoirref01_first) ∈ laid) : RT W := by
  rw [rfirst_data] at h4
  obtain ⟨T4, hf'⟩ := laid_tab h h4 (by decide) rfirst_global (t := 68) (by kernel_rfl) Tryd.underlying68 Tryd.underlying67 (by kernel_rfl) (by kernel_rfl)
  intro x hx
  rcases List.mem_cons.1 hx with rfl | hx
  · exact ⟨T4, hf'⟩
  · exact tabB_of h h1 h2 h3 x hx

/-- a world in which all four tables hold what their initialisers lay -/
noncomputable def laidWorldR (os : Os) : World :=
  { laidWorld os with heap := ((laidWorld os).heap.modify 3 layK).modify 2 layFirst }

theorem FC.callsV {P : Program} {G : List (Nat × Array Value)} {f : FuncId} {xs : List Value} {r : Value} (F : FC P G f (xs.map AV.v) [] (.v r) []) (w : World) (hT : ∀ x ∈ G, ∃ T, w.heap[x.1]? = some (.cells x.2 T (0, 0))) : Calls P f xs.toArray w fun e w' => e = .returned r ∧ Fr [] w w' :=
  F.calls w hT xs.toArray (by simp) fun i c x hc hx => by
    have hx' : xs[i]? = some x := by simpa using hx
    have hc' : (xs.map AV.v)[i]? = some c := hc
    rw [List.getElem?_map, hx'] at hc'
    cases hc'
    exact .v x
end Go.Proofs.YtmmoadhjlgbmhaaDoor.E
end
