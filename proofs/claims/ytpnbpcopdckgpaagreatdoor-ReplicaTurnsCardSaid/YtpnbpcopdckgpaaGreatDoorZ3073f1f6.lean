import Derived.Test.YtpnbpcopdckgpaaGreatDoorZc1451e67
import Derived.Test.YtpnbpcopdckgpaaGreatDoorZ77f8e77b
import Derived.Test.YtpnbpcopdckgpaaGreatDoorZe95ca6bc
namespace Go.Proofs.YtpnbpcopdckgpaaGreatDoor.E
abbrev FP (G : List (Nat × Array Value)) := FC Tryz.prog G
open Go Go.RowKit Go.Proofs.YtpnbpcopdckgpaaGreatDoor.V
set_option maxRecDepth 4000
theorem rot_fc {G : List (Nat × Array Value)} (x : UInt32) (n : Nat) (h0 : 0 < n) (h1 : n < 32) : FP G 145 [wA x, .v (.int .i64 (n : Int))] [] (wA (ror x n)) [] := by
 have hn0 : (0 : Int) ≤ (n : Int) := by omega
 have hn1 : (0 : Int) ≤ 32 - (n : Int) := by omega
 have hr : shr32 x n ||| shl32 x (32 - n) = ror x n := by unfold ror; exact UInt32.or_comm _ _
 refine FC.of_wp [4] Tryz.func145 rfl rfl rfl rfl (by trivial) (by trivial) (Nat.le_of_ble_eq_true rfl) ?_
 intro A hG hnA hAB
 unfold start
 refine WP.rs hG (Ch.asg rfl rfl (Ch.nil (WP.rsD (by kernel_rfl) hG (Ch.mv rfl rfl (Ch.mv rfl rfl (Ch.p2 rfl rfl (OpS.shr_u32 (j := n) (by omega) (by omega)) rfl ?_))))))
 refine Ch.mv rfl rfl (Ch.mv rfl rfl (Ch.p2 rfl rfl (OpS.int rfl (by exact wr64 (by omega))) rfl ?_))
 refine Ch.p2 rfl rfl (OpS.shl_u32 (j := 32 - n) (by omega) (by omega)) rfl ?_
 refine Ch.p2 rfl rfl (OpS.or_u32) rfl (Ch.asg rfl rfl (Ch.nilD ?_ (by kernel_rfl)))
 exact WP.ret (Ret.one rfl (by rw [← hr]; exact .rfl _) trivial hnA)
theorem text_fc {G : List (Nat × Array Value)} (l : List UInt32) (hl : l.length ≤ 1000) : FP G 143 [.sl none l.length (l.map wA)] [] (.v (.string (B (l.flatMap be4)))) [] := by
 refine FC.of_wp [2] Tryz.func143 rfl rfl rfl rfl ⟨⟨by simp, belL_raw _ _ l⟩, trivial⟩ trivial (Nat.le_of_ble_eq_true rfl) ?_
 intro A hG hnA hAB
 unfold start
 refine WP.rs hG (Ch.asg rfl rfl (Ch.nil (WP.rs hG (Ch.a1 rfl (OpS.assignTip 0 5 1) rfl rfl (Ch.nil (WP.seq (WP.rs hG (Ch.asg rfl rfl (Ch.nil ?_)))))))))
 refine WP.block ?_
 refine WP.loop (fun k σ => ∃ m : Nat, m + k = l.length ∧ σ = ⟨39, ls [(0, .sl none l.length (l.map wA)), (3, .sl (some 0) ((l.take m).flatMap be4).length (((l.take m).flatMap be4).map bA)), (4, .v (.int .i64 (m : Int)))], lh [(0, .tip 5 1 ((l.take m).flatMap be4).length)], blt 1⟩) (l.length) (Ent.of [] ?_ ?_ ?_ ?_).se ⟨0, by simp, rfl⟩ ?_
 · exact na_of hnA rfl
 · (repeat (first | exact trivial | (refine ⟨⟨(by first | trivial | (simp; first | done | fail)), _, rfl, (by first | exact .rfl _ | exact .of_eq (by simp; first | done | fail))⟩, ?_⟩)))
 · (repeat (first | exact trivial | (refine ⟨⟨rfl, (by trivial), (by rfl)⟩, ?_⟩)))
 · exact nd_of rfl
 rintro k σ ⟨m, hm, rfl⟩
 refine WP.seq (WP.rs hG (Ch.mv rfl rfl (Ch.mv rfl rfl (Ch.p1 rfl (OpS.len rfl) rfl (Ch.p2 rfl rfl (OpS.int rfl (by exact rfl)) rfl ?_)))))
 refine Ch.nil ?_
 refine WP.cond rfl ?_ ?_
 ·
  intro ht
  have ht' := of_decide_eq_true ht
  have hc : (l.take (m + 1)).flatMap be4 = (l.take m).flatMap be4 ++ be4 (el l m) := flat_succ l m (by omega)
  have hlen : ((l.take m).flatMap be4).length = 4 * m := by rw [flat_be4_length, List.length_take]; omega
  refine WP.skip (WP.seq (WP.block (WP.rgD (by kernel_rfl) hG (Ch.mv rfl rfl (Ch.mv rfl rfl (Ch.mv rfl rfl (Ch.p2 rfl rfl (OpS.indexM rfl rfl rfl (by with_reducible exact Int.toNat_natCast _) (by omega) (by omega) (by rfl)) rfl ?_)))))))
  refine Ch.p1 rfl (OpS.loadS rfl rfl) rfl (Ch.p2 rfl rfl (OpS.shr_u32 (by decide) (by rfl)) rfl ?_)
  refine Ch.p1 rfl (OpS.conv rfl rfl (by exact cv_u8_u32 _)) rfl ?_
  refine Ch.mv rfl rfl (Ch.mv rfl rfl (Ch.p2 rfl rfl (OpS.indexM rfl rfl rfl (by with_reducible exact Int.toNat_natCast _) (by omega) (by omega) (by rfl)) rfl ?_))
  refine Ch.p1 rfl (OpS.loadS rfl rfl) rfl (Ch.p2 rfl rfl (OpS.shr_u32 (by decide) (by rfl)) rfl ?_)
  refine Ch.p1 rfl (OpS.conv rfl rfl (by exact cv_u8_u32 _)) rfl ?_
  refine Ch.mv rfl rfl (Ch.mv rfl rfl (Ch.p2 rfl rfl (OpS.indexM rfl rfl rfl (by with_reducible exact Int.toNat_natCast _) (by omega) (by omega) (by rfl)) rfl ?_))
  refine Ch.p1 rfl (OpS.loadS rfl rfl) rfl (Ch.p2 rfl rfl (OpS.shr_u32 (by decide) (by rfl)) rfl ?_)
  refine Ch.p1 rfl (OpS.conv rfl rfl (by exact cv_u8_u32 _)) rfl ?_
  refine Ch.mv rfl rfl (Ch.mv rfl rfl (Ch.p2 rfl rfl (OpS.indexM rfl rfl rfl (by with_reducible exact Int.toNat_natCast _) (by omega) (by omega) (by rfl)) rfl ?_))
  refine Ch.p1 rfl (OpS.loadS rfl rfl) rfl (Ch.p1 rfl (OpS.conv rfl rfl (by exact cv_u8_u32 _)) rfl ?_)
  refine Ch.pup gdN (by repeat (first | exact EvP.nil | (apply EvP.cons; exact rfl))) (OpS.slice1 rfl rfl rfl rfl rfl rfl (by rfl) rfl (by rfl)) rfl ?_
  refine Ch.a2 rfl rfl (OpS.append (sz := 1) (bb := 1) 1 rfl rfl rfl rfl rfl (by decide) (SrcA.sl rfl (by simp)) (by (simp; done)) (by simp) (by unfold maxLen; omega) rfl (by omega)) rfl rfl rfl ?_
  refine Ch.asg rfl rfl (Ch.nilD ?_ (by kernel_rfl))
  refine WP.rg hG (Ch.mv rfl rfl (Ch.p2 rfl rfl (OpS.int rfl (by exact wr64 (by omega))) rfl ?_))
  refine Ch.asg rfl rfl (Ch.nil ?_)
  refine ⟨k - 1, _, by omega, (Ent.of [1] ?_ ?_ ?_ ?_).se, m + 1, by omega, rfl⟩
  · exact na_of hnA rfl
  · (repeat (first | exact trivial | (refine ⟨⟨(by first | trivial | (simp; first | done | fail)), _, rfl, (by first | exact .rfl _ | exact .of_eq (by simp [hc, be4]; first | done | fail))⟩, ?_⟩)))
  · (repeat (first | exact trivial | (refine ⟨⟨rfl, (by trivial), (by (simp [hc, be4]; first | done | fail))⟩, ?_⟩)))
  exact nd_of rfl
 intro ht
 have ht' := of_decide_eq_false ht
 obtain rfl : m = l.length := by omega
 refine WP.exit (WP.rs hG (Ch.mv rfl rfl (Ch.p1 rfl (OpS.b2s rfl rfl rfl (by rfl)) rfl ?_)))
 refine Ch.asg rfl rfl (Ch.nil ?_)
 exact WP.ret (Ret.one rfl (by rw [List.take_length]; exact .rfl _) trivial hnA)
end Go.Proofs.YtpnbpcopdckgpaaGreatDoor.E
namespace Go.Proofs.YtpnbpcopdckgpaaGreatDoor.V
open Go Go.RowKit
attribute [local go_sem] B_size B_append B_extract mk_B B_toList take_drop_len List.length_drop List.length_take sgn32 sgn64 add32 sub32 mul32 add64 sub64 mul64 mul64_8 and32 or32 xor32 and64 or64 xor64 shl32_run shr32_run shl64_run shr64_run not32 not32' xor32_all w_u32_u8 w_u64_u8 w_i64_u8 w_u8_u32 w_u8_u64 w_u32_u64 w_u64_u32 w_u8_u8 w_u32_u32 w_u64_u64
attribute [local go_sem ↓] run_index_B' add32 sub32 mul32 add64 sub64 mul64 mul64_8 and32 or32 xor32 and64 or64 xor64 shl32_run shr32_run shl64_run shr64_run not32 not32' xor32_all w_u32_u8 w_u64_u8 w_i64_u8 w_u8_u32 w_u8_u64 w_u32_u64 w_u64_u32 w_u8_u8 w_u32_u32 w_u64_u64 w_u64_nat w_u32_nat w_u8_nat
set_option maxRecDepth 4000
def RF (w : World) : Prop := ∃ T, w.heap[2]? = some (.cells first.cells T (0, 0))
theorem RF.fr {S : List Nat} {w w' : World} (h : RF w) (hf : Fr S w w') (h2 : 2 ∉ S) : RF w' := by
 obtain ⟨T, h⟩ := h
 exact ⟨T, by rw [hf.block _ (Array.getElem?_eq_some_iff.1 h).1 h2]; exact h⟩
set_option maxHeartbeats 1000000 in
set_option maxRecDepth 100000 in
theorem rfirst_ok (w : World) (h : RF w) :
  Calls Tryz.prog 106 #[] w fun e w' => e = .returned (.string (B first.text)) ∧ Fr [] w w' := by
 obtain ⟨T, hf⟩ := h
 have hR : RWords w 0 (.slice (some ⟨2, 0, none⟩) 8 8) first.words :=
  ⟨_, 8, rfl, fun i hi => ⟨_, 0, rfl, Nat.zero_le _, (Array.getElem?_eq_some_iff.1 hf).1, by rw [Nat.zero_add]; exact cell_at hf (cells_get first i hi)⟩⟩
 have HR := Lib.hid hR
 clear hf hR
 go_enter Tryz.func106, Tryz.ntmps106
 go_wp2_with fail
 refine (text_ok 0 _ first.words _ (by decide) HR.out).mono ?_
 rintro e w1 ⟨rfl, hf1⟩
 have HF1 := Lib.hid hf1
 clear hf1
 go_wp2
 go_ret
 exact ⟨rfl, HF1.out⟩
def be8 (b : UInt64) (n : Nat) : List UInt8 := (List.range n).map fun j => (shr64 b (8 * (7 - j))).toUInt8
theorem be8_succ (b : UInt64) (n : Nat) : be8 b (n + 1) = be8 b n ++ [(shr64 b (8 * (7 - n))).toUInt8] := by simp [be8, List.range_succ]
theorem be8_all (n : Nat) : be8 (8 * UInt64.ofNat n) 8 = be4 (UInt64.toUInt32 (shr64 (8 * UInt64.ofNat n) 32)) ++ be4 (8 * UInt32.ofNat n) := by
 have h : be8 (8 * UInt64.ofNat n) 8 = [(shr64 (8 * UInt64.ofNat n) 56).toUInt8, (shr64 (8 * UInt64.ofNat n) 48).toUInt8, (shr64 (8 * UInt64.ofNat n) 40).toUInt8, (shr64 (8 * UInt64.ofNat n) 32).toUInt8, (shr64 (8 * UInt64.ofNat n) 24).toUInt8, (shr64 (8 * UInt64.ofNat n) 16).toUInt8, (shr64 (8 * UInt64.ofNat n) 8).toUInt8, (shr64 (8 * UInt64.ofNat n) 0).toUInt8] := rfl
 rw [h]
 simp only [be4, List.cons_append, List.nil_append, List.cons.injEq, and_true]
 refine ⟨?_, ?_, ?_, ?_, ?_, ?_, ?_, ?_⟩ <;> (apply UInt8.toNat_inj.1; simp [shr32, shr64] <;> omega)
end Go.Proofs.YtpnbpcopdckgpaaGreatDoor.V
namespace Go.Proofs.YtpnbpcopdckgpaaGreatDoor.E
open Go Go.RowKit V
set_option maxRecDepth 4000
theorem word_at (s : List UInt8) (m : Nat) : shl32 (nth s (4 * m)).toUInt32 24 ||| shl32 (nth s (4 * m + 1)).toUInt32 16 ||| shl32 (nth s (4 * m + 2)).toUInt32 8 ||| (nth s (4 * m + 3)).toUInt32 = wordOf (s.drop (4 * m)) := by
 unfold wordOf
 rw [nth_drop, nth_drop, nth_drop, nth_drop]
 rfl
theorem words_fc {G : List (Nat × Array Value)} (s : List UInt8) (N : Nat) (hs : s.length = 4 * N) (hN : N ≤ 1000) :
  FP G 144 [sA s] [] (.sl (some 0) N ((wordsOf s N).map wA)) [some (.tip 120 1 N)] := by
 refine FC.of_wp [2] Tryz.func144 rfl rfl rfl rfl (by trivial) (by trivial) (Nat.le_of_ble_eq_true rfl) ?_
 intro A hG hnA hAB
 unfold start
 refine WP.rs hG (Ch.asg rfl rfl (Ch.nil (WP.rs hG (Ch.a1 rfl (OpS.assignTip 0 120 1) rfl rfl (Ch.nil (WP.seq (WP.rs hG (Ch.asg rfl rfl (Ch.nil ?_)))))))))
 refine WP.block ?_
 refine WP.loop (fun k σ => ∃ m ii : Nat, (ii = 4 * m ∧ m + k = N) ∧ σ = ⟨41, ls [(0, sA s), (3, .sl (some 0) m ((wordsOf s m).map wA)), (4, .v (.int .i64 (ii : Int)))], lh [(0, .tip 120 1 m)], blt 1⟩) (N) (Ent.of [] ?_ ?_ ?_ ?_).se ⟨0, 0, by omega, rfl⟩ ?_
 · exact na_of hnA rfl
 · (repeat (first | exact trivial | (refine ⟨⟨(by trivial), _, rfl, .rfl _⟩, ?_⟩)))
 · (repeat (first | exact trivial | (refine ⟨⟨rfl, (by trivial), (by rfl)⟩, ?_⟩)))
 · exact nd_of rfl
 rintro k σ ⟨m, ii, ⟨hi, hm⟩, rfl⟩
 have hc := wordsOf_succ s m
 have hw := word_at s m
 rw [← hi] at hw
 have hl := wordsOf_length s m
 refine WP.seq (WP.rs hG (Ch.mv rfl rfl (Ch.p2 rfl rfl (OpS.int rfl (by exact wr64 (by omega))) rfl ?_)))
 refine Ch.mv rfl rfl (Ch.p1 rfl (OpS.lenS rfl) rfl (Ch.p2 rfl rfl (OpS.int rfl (by exact rfl)) rfl ?_))
 refine Ch.nil ?_
 refine WP.cond rfl ?_ ?_
 ·
  intro ht
  have ht' := of_decide_eq_true ht
  refine WP.skip (WP.seq (WP.block (WP.rgD (by kernel_rfl) hG (Ch.mv rfl rfl (Ch.mv rfl rfl (Ch.mv rfl rfl (Ch.p2 rfl rfl (OpS.indexS rfl (by with_reducible exact Int.toNat_natCast _) (by omega) (by omega)) rfl ?_)))))))
  refine Ch.p1 rfl (OpS.conv rfl rfl (by exact cv_u32_u8 _)) rfl ?_
  refine Ch.p2 rfl rfl (OpS.shl_u32 (by decide) (by rfl)) rfl ?_
  refine Ch.mv rfl rfl (Ch.mv rfl rfl (Ch.p2 rfl rfl (OpS.int rfl (by exact wr64 (by omega))) rfl ?_))
  refine Ch.p2 rfl rfl (OpS.indexS rfl (by with_reducible exact tnLitA _ _) (by omega) (by omega)) rfl ?_
  refine Ch.p1 rfl (OpS.conv rfl rfl (by exact cv_u32_u8 _)) rfl ?_
  refine Ch.p2 rfl rfl (OpS.shl_u32 (by decide) (by rfl)) rfl ?_
  refine Ch.p2 rfl rfl (OpS.or_u32) rfl (Ch.mv rfl rfl (Ch.mv rfl rfl (Ch.p2 rfl rfl (OpS.int rfl (by exact wr64 (by omega))) rfl ?_)))
  refine Ch.p2 rfl rfl (OpS.indexS rfl (by with_reducible exact tnLitA _ _) (by omega) (by omega)) rfl ?_
  refine Ch.p1 rfl (OpS.conv rfl rfl (by exact cv_u32_u8 _)) rfl ?_
  refine Ch.p2 rfl rfl (OpS.shl_u32 (by decide) (by rfl)) rfl ?_
  refine Ch.p2 rfl rfl (OpS.or_u32) rfl (Ch.mv rfl rfl (Ch.mv rfl rfl (Ch.p2 rfl rfl (OpS.int rfl (by exact wr64 (by omega))) rfl ?_)))
  refine Ch.p2 rfl rfl (OpS.indexS rfl (by with_reducible exact tnLitA _ _) (by omega) (by omega)) rfl ?_
  refine Ch.p1 rfl (OpS.conv rfl rfl (by exact cv_u32_u8 _)) rfl ?_
  refine Ch.p2 rfl rfl (OpS.or_u32) rfl (Ch.pup gdN (by repeat (first | exact EvP.nil | (apply EvP.cons; exact rfl))) (OpS.slice1 rfl rfl rfl rfl rfl rfl (by rfl) rfl (by rfl)) rfl ?_)
  refine Ch.a2 rfl rfl (OpS.append (sz := 1) (bb := 4) 1 rfl rfl rfl rfl rfl (by decide) (SrcA.sl rfl (by simp)) (by (simp; assumption)) (by simp) (by unfold maxLen; omega) rfl (by omega)) rfl rfl rfl ?_
  refine Ch.asg rfl rfl (Ch.nilD ?_ (by kernel_rfl))
  refine WP.rg hG (Ch.mv rfl rfl (Ch.p2 rfl rfl (OpS.int rfl (by exact wr64 (by omega))) rfl ?_))
  refine Ch.asg rfl rfl (Ch.nil ?_)
  refine ⟨k - 1, _, by omega, (Ent.of [1] ?_ ?_ ?_ ?_).se, m + 1, ii + 4, by omega, rfl⟩
  · exact na_of hnA rfl
  · (repeat (first | exact trivial | (refine ⟨⟨(by first | trivial | (simp; first | done | fail)), _, rfl, (by first | exact .rfl _ | exact .of_eq (by simp [hc, ← hw, ← hi]; first | done | fail))⟩, ?_⟩)))
  · (repeat (first | exact trivial | (refine ⟨⟨rfl, (by trivial), (by rfl)⟩, ?_⟩)))
  exact nd_of rfl
 intro ht
 have ht' := of_decide_eq_false ht
 refine WP.exit (WP.rs hG (Ch.mv rfl rfl (Ch.asg rfl rfl (Ch.nil ?_))))
 obtain rfl : m = N := by omega
 exact WP.ret (Ret.row 0 rfl (by exact .of_eq (by simp; first | done | fail)) (by (simp; first | done | fail)) rfl trivial hnA)
theorem wordsA_fc {G : List (Nat × Array Value)} (s : List UInt8) (N : Nat) (hs : s.length = 4 * N) (hN : N ≤ 1000) (h0 : 0 < N) :
  FP G 144 [sA s] [] (.arr 0 0 N) [some (.cells 120 ((wordsOf s N).map wA))] :=
 (words_fc s N hs hN).thaw (by simp [wordsOf_length]) (by omega) (by intro x hx; simp at hx; obtain ⟨y, _, rfl⟩ := hx; exact ⟨_, rfl⟩)
theorem wordsS_fc {G : List (Nat × Array Value)} (s : List UInt8) (N : Nat) (hs : s.length = 4 * N) (hN : N ≤ 1000) :
  FP G 144 [sA s] [] (.sl none N ((wordsOf s N).map wA)) [] :=
 (words_fc s N hs hN).shut (belL_w _ _) (renL_w _ _)
def kArr : Array Value := (kTab.map fun x => .int .u32 (U32 x)).toArray
theorem first_fc {G : List (Nat × Array Value)} (hm : (2, first.cells) ∈ G) : FP G 106 [] [] (sA first.text) [] :=
 FC.of_calls Tryz.func106 rfl rfl trivial fun A vs hG HS hsz _ => by
  obtain ⟨T, hT⟩ := tab_of HS hG (g := 2) (arr := first.cells) hm
  obtain rfl := Array.eq_empty_of_size_eq_zero hsz
  exact rfirst_ok A.w ⟨T, hT⟩
def padZ (j : Nat) : List UInt8 := 128 :: List.replicate j 0
theorem padZ_succ (j : Nat) : padZ (j + 1) = padZ j ++ [0] := by
 unfold padZ
 rw [List.replicate_succ', List.cons_append]
theorem padZ_length (j : Nat) : (padZ j).length = j + 1 := by simp [padZ]
def padB (n i : Nat) : List UInt8 := padZ (noughts n) ++ be8 (8 * UInt64.ofNat n) i
theorem padB_0 (n : Nat) : padB n 0 = padZ (noughts n) := by simp [padB, be8]
theorem padB_succ (n i : Nat) : padB n (i + 1) = padB n i ++ [(shr64 (8 * UInt64.ofNat n) (8 * (7 - i))).toUInt8] := by unfold padB; rw [be8_succ, List.append_assoc]
theorem padB_length (n i : Nat) : (padB n i).length = noughts n + 1 + i := by simp [padB, padZ_length, be8]
theorem padB_8 (n : Nat) : padB n 8 = pad n := by unfold padB; rw [be8_all]; rfl
theorem u8_0 : U8 0 = 0 := rfl
theorem noughts_end (n j : Nat) (hj : j ≤ noughts n) : ((n % 64 + (j + 1) + 8) % 64 ≠ 0 ↔ j < noughts n) := by
 unfold noughts at *
 omega
theorem rpad_fc {G : List (Nat × Array Value)} (n : Nat) (hn : (n : Int) ≤ 9223372036854775807) :
  FP G 107 [.v (.int .i64 (n : Int))] [] (sA (pad n)) [] := by
 refine FC.of_wp [2] Tryz.func107 rfl rfl rfl rfl (by trivial) (by trivial) (Nat.le_of_ble_eq_true rfl) ?_
 intro A hG hnA hAB
 unfold start
 refine WP.rs hG (Ch.asg rfl rfl (Ch.nil (WP.seq (WP.rs hG (Ch.mv rfl rfl (Ch.p2 rfl rfl (OpS.int rfl (by exact rfl)) rfl ?_))))))
 refine Ch.nil (WP.cond_false rfl (WP.skip (WP.rs hG (Ch.alp gdN (by repeat (first | exact EvP.nil | (apply EvP.cons; exact rfl))) (OpS.slice1T 0 rfl rfl rfl rfl rfl rfl (by rfl) rfl (by rfl)) (by exact ⟨rfl, trivial⟩) rfl ?_))))
 refine Ch.asg rfl rfl (Ch.nil (WP.seq (WP.block ?_)))
 refine WP.loop (fun k σ => ∃ j : Nat, j + k = noughts n ∧ σ = ⟨37, ls [(0, .v (.int .i64 (n : Int))), (3, .sl (some 0) (j + 1) ((padZ j).map bA))], lh [(0, .tip 5 1 (j + 1))], blt 1⟩) (noughts n) (Ent.of [] ?_ ?_ ?_ ?_).se ⟨0, by omega, rfl⟩ ?_
 · exact na_of hnA rfl
 · (repeat (first | exact trivial | (refine ⟨⟨(by trivial), _, rfl, .rfl _⟩, ?_⟩)))
 · (repeat (first | exact trivial | (refine ⟨⟨rfl, (by trivial), (by rfl)⟩, ?_⟩)))
 · exact nd_of rfl
 rintro k σ ⟨j, hj, rfl⟩
 have hr := padZ_succ j
 have hl := padZ_length j
 have he := noughts_end n j (by omega)
 have h64 : noughts n < 64 := Nat.mod_lt _ (by decide)
 refine WP.seq (WP.rs hG (Ch.mv rfl rfl (Ch.p2 rfl rfl (OpS.rem (by omega) (by omega)) rfl ?_)))
 refine Ch.mv rfl rfl (Ch.p1 rfl (OpS.len rfl) rfl (Ch.p2 rfl rfl (OpS.int rfl (by exact wr64 (by omega))) rfl ?_))
 refine Ch.p2 rfl rfl (OpS.int rfl (by exact wr64 (by omega))) rfl ?_
 refine Ch.p2 rfl rfl (OpS.rem (by omega) (by omega)) rfl ?_
 refine Ch.p2 rfl rfl (OpS.int rfl (by exact rfl)) rfl ?_
 refine Ch.nil ?_
 refine WP.cond rfl ?_ ?_
 ·
  intro ht
  have ht' := bne_iff_ne.mp ht
  refine WP.skip (WP.block (WP.rg hG (Ch.mv rfl rfl (Ch.pup gdN (by repeat (first | exact EvP.nil | (apply EvP.cons; exact rfl))) (OpS.slice1 rfl rfl rfl rfl rfl rfl (by rfl) rfl (by rfl)) rfl ?_))))
  refine Ch.a2 rfl rfl (OpS.append (sz := 1) (bb := 1) 1 rfl rfl rfl rfl rfl (by decide) (SrcA.sl rfl (by simp)) (by (simp; assumption)) (by simp) (by unfold maxLen; omega) rfl (by omega)) rfl rfl rfl ?_
  refine Ch.asg rfl rfl (Ch.nil ?_)
  refine ⟨k - 1, _, by omega, (Ent.of [1] ?_ ?_ ?_ ?_).se, j + 1, by omega, rfl⟩
  · exact na_of hnA rfl
  · (repeat (first | exact trivial | (refine ⟨⟨(by first | trivial | (simp; first | done | fail)), _, rfl, (by first | exact .rfl _ | exact .of_eq (by simp [hr, u8_0]; first | done | fail))⟩, ?_⟩)))
  · (repeat (first | exact trivial | (refine ⟨⟨rfl, (by trivial), (by rfl)⟩, ?_⟩)))
  exact nd_of rfl
 intro ht
 have ht' := bne_eq_false_iff_eq.mp ht
 obtain rfl : k = 0 := by omega
 obtain rfl : j = noughts n := by omega
 refine WP.exit (WP.rs hG (Ch.mv rfl rfl (Ch.p1 rfl (OpS.conv rfl rfl (by exact cv_u64_nat _)) rfl ?_)))
 refine Ch.p2 rfl rfl (OpS.int rfl (by exact rfl)) rfl ?_
 refine Ch.asg rfl rfl (Ch.nil (WP.seq (WP.rs hG (Ch.asg rfl rfl (Ch.nil (WP.block ?_))))))
 refine WP.loop (fun k σ => ∃ i : Nat, i + k = 8 ∧ σ = ⟨37, ls [(4, .v (.int .u64 (U64 (8 * UInt64.ofNat n)))), (3, .sl (some 0) (noughts n + 1 + i) ((padB n i).map bA)), (5, .v (.int .i64 (7 - (i : Int))))], lh [(0, .tip 5 1 (noughts n + 1 + i))], blt 1⟩) (8) (Ent.of [] ?_ ?_ ?_ ?_).se ⟨0, by omega, rfl⟩ ?_
 · exact na_of hnA rfl
 · (repeat (first | exact trivial | (refine ⟨⟨(by first | trivial | (simp; first | done | fail)), _, rfl, (by first | exact .rfl _ | exact .of_eq (by simp [padB_0]; first | done | fail))⟩, ?_⟩)))
 · (repeat (first | exact trivial | (refine ⟨⟨rfl, (by trivial), (by rfl)⟩, ?_⟩)))
 · exact nd_of rfl
 rintro k1 σ ⟨i, hi, rfl⟩
 have hc := padB_succ n i
 have hl := padB_length n i
 refine WP.seq (WP.rs hG (Ch.mv rfl rfl (Ch.p2 rfl rfl (OpS.int rfl (by exact rfl)) rfl ?_)))
 refine Ch.nil ?_
 refine WP.cond rfl ?_ ?_
 ·
  intro ht
  have ht' := of_decide_eq_true ht
  refine WP.skip (WP.seq (WP.block (WP.rg hG (Ch.mv rfl rfl (Ch.mv rfl rfl (Ch.mv rfl rfl (Ch.p2 rfl rfl (OpS.int rfl (by exact wr64 (by omega))) rfl ?_)))))))
  refine Ch.p2 rfl rfl (OpS.shr_u64 (j := 8 * (7 - i)) (by omega) (by omega)) rfl ?_
  refine Ch.p1 rfl (OpS.conv rfl rfl (by exact cv_u8_u64 _)) rfl ?_
  refine Ch.pup gdN (by repeat (first | exact EvP.nil | (apply EvP.cons; exact rfl))) (OpS.slice1 rfl rfl rfl rfl rfl rfl (by rfl) rfl (by rfl)) rfl ?_
  refine Ch.a2 rfl rfl (OpS.append (sz := 1) (bb := 1) 1 rfl rfl rfl rfl rfl (by decide) (SrcA.sl rfl (by simp)) (by (simp; assumption)) (by simp) (by unfold maxLen; omega) rfl (by omega)) rfl rfl rfl ?_
  refine Ch.asg rfl rfl (Ch.nil (WP.rg hG (Ch.mv rfl rfl (Ch.p2 rfl rfl (OpS.int rfl (by exact wr64 (by omega))) rfl ?_))))
  refine Ch.asg rfl rfl (Ch.nil ?_)
  refine ⟨k1 - 1, _, by omega, (Ent.of [1] ?_ ?_ ?_ ?_).se, i + 1, by omega, by (have : (7 : Int) - (i : Int) - 1 = 7 - ((i + 1 : Nat) : Int) := by omega); rw [← this]⟩
  · exact na_of hnA rfl
  · (repeat (first | exact trivial | (refine ⟨⟨(by first | trivial | (simp; first | done | fail)), _, rfl, (by first | exact .rfl _ | exact .of_eq (by simp [hc, Nat.add_assoc]; first | done | fail))⟩, ?_⟩)))
  · (repeat (first | exact trivial | (refine ⟨⟨rfl, (by trivial), (by rfl)⟩, ?_⟩)))
  exact nd_of rfl
 intro ht
 have ht' := of_decide_eq_false ht
 obtain rfl : i = 8 := by omega
 refine WP.exit (WP.rs hG (Ch.mv rfl rfl (Ch.p1 rfl (OpS.b2s rfl rfl rfl (by omega)) rfl ?_)))
 refine Ch.asg rfl rfl (Ch.nil ?_)
 rw [padB_8] at *
 exact WP.ret (Ret.one rfl (by exact .rfl _) (by trivial) hnA)
theorem OpS.xorAll {P : Program} {G : List (Nat × Array Value)} {t t' : TypeId} {x y : Operand} {a : UInt32} {dst : Option Tmp} {ty : TypeId} {pos : String} {aft : Array Edge} {gd : Option (Nat × Bool)} :
  OpS P G ⟨dst, .binOp .xor t x y t', ty, pos, aft, gd⟩ [(x, .v (.int .u32 (U32 a))), (y, .v (.int .u32 4294967295))] [] ⟨some (.v (.int .u32 (U32 (~~~a)))), [], []⟩ :=
 OpS.binR rfl fun w => by
  show (Op.intBits .xor .u32 (U32 a) 4294967295).run P w = _
  rw [intBits_xor, xor32_all]; rfl
theorem sched_words (s : List UInt8) (n : Nat) (hn : n ≤ 16) : sched s n = wordsOf s n := by
 induction n with
 | zero => rfl
 | succ n ih =>
  rw [sched, ih (by omega), wordsOf_succ, nxt, wordsOf_length, if_pos (by omega)]
theorem words_len (x : V.St) : x.words.length = 8 := rfl
theorem rounds_0 (v : V.St) (w : List UInt32) : rounds v w 0 = v := rfl
theorem rounds_next (v : V.St) (w : List UInt32) (m : Nat) : rounds v w (m + 1) = rnd (rounds v w m) (el kTab m + el w m) := rfl
theorem part_0 (s x : V.St) : partAdd s x 0 = s.words := rfl
theorem words_read (s : List UInt8) : wordsOf s 8 = (readSt s).words := rfl
theorem sched_next (s : List UInt8) (m : Nat) (h : 16 ≤ m) : sched s (m + 1) = sched s m ++ [(ror (el (sched s m) (m - 2)) 17 ^^^ ror (el (sched s m) (m - 2)) 19 ^^^ shr32 (el (sched s m) (m - 2)) 10) + el (sched s m) (m - 7) + (ror (el (sched s m) (m - 15)) 7 ^^^ ror (el (sched s m) (m - 15)) 18 ^^^ shr32 (el (sched s m) (m - 15)) 3) + el (sched s m) (m - 16)] := by
 rw [sched, nxt, sched_length, if_neg (by omega)]
 congr 2
 show lget _ _ + sig0 (lget _ _) + lget _ _ + sig1 (lget _ _) = sig1 (lget _ _) + lget _ _ + sig0 (lget _ _) + lget _ _
 generalize lget (sched s m) (m - 16) = a
 generalize sig0 (lget (sched s m) (m - 15)) = b
 generalize lget (sched s m) (m - 7) = c
 generalize sig1 (lget (sched s m) (m - 2)) = d
 rw [UInt32.add_comm (a + b + c) d, UInt32.add_comm a b, UInt32.add_assoc b a c, UInt32.add_comm a c, ← UInt32.add_assoc b c a, UInt32.add_comm b c, ← UInt32.add_assoc, ← UInt32.add_assoc]
theorem kArr_get (m : Nat) (h : m < 64) : kArr[0 + ((m : Int)).toNat * 1]? = some (.int .u32 (U32 (el kTab m))) := by
 have h1 : m < kTab.length := h
 simp [kArr, el, h1]
theorem part_get (s x : V.St) (n : Nat) (h : n < 8) : ((partAdd s x n).map wA)[0 + ((n : Int)).toNat * 1]? = some (wA (el s.words n)) := by
 have : n = 0 ∨ n = 1 ∨ n = 2 ∨ n = 3 ∨ n = 4 ∨ n = 5 ∨ n = 6 ∨ n = 7 := by omega
 rcases this with rfl | rfl | rfl | rfl | rfl | rfl | rfl | rfl <;> rfl
theorem part_8 (v : V.St) (b : List UInt8) : partAdd v (rounds v (sched b 64) 64) 8 = (mixed v b).words := rfl
theorem part_len (s x : V.St) (n : Nat) : ((partAdd s x n).map wA).length = 8 := rfl
theorem part_set (s x : V.St) (n : Nat) (h : n < 8) : ((partAdd s x n).map wA).set n (.v (.int .u32 (U32 (el s.words n + el x.words n)))) = (partAdd s x (n + 1)).map wA := by
 have : n = 0 ∨ n = 1 ∨ n = 2 ∨ n = 3 ∨ n = 4 ∨ n = 5 ∨ n = 6 ∨ n = 7 := by omega
 rcases this with rfl | rfl | rfl | rfl | rfl | rfl | rfl | rfl <;> rfl
theorem rnd_words (x : V.St) (k w : UInt32) : (rnd x (k + w)).words = [
  (el x.words 7 + (ror (el x.words 4) 6 ^^^ ror (el x.words 4) 11 ^^^ ror (el x.words 4) 25) + (el x.words 4 &&& el x.words 5 ^^^ ~~~ el x.words 4 &&& el x.words 6) + k + w) + ((ror (el x.words 0) 2 ^^^ ror (el x.words 0) 13 ^^^ ror (el x.words 0) 22) + (el x.words 0 &&& el x.words 1 ^^^ el x.words 0 &&& el x.words 2 ^^^ el x.words 1 &&& el x.words 2)),
  el x.words 0, el x.words 1, el x.words 2, el x.words 3 + (el x.words 7 + (ror (el x.words 4) 6 ^^^ ror (el x.words 4) 11 ^^^ ror (el x.words 4) 25) + (el x.words 4 &&& el x.words 5 ^^^ ~~~ el x.words 4 &&& el x.words 6) + k + w), el x.words 4, el x.words 5, el x.words 6] := by
 rw [UInt32.add_assoc _ k w]
 rfl
attribute [local irreducible] sched rounds wordsOf partAdd mixed readSt el lget kTab ror shr32 shl32
set_option maxHeartbeats 4000000 in
theorem rblock_fc {G : List (Nat × Array Value)} (hk : (3, kArr) ∈ G) (s b : List UInt8) (hs : s.length = 32) (hb : b.length = 64) :
  FP G 108 [sA s, sA b] [] (sA (mixed (readSt s) b).text) [] := by
 refine FC.of_wp [4] Tryz.func108 rfl rfl rfl rfl (by trivial) (by trivial) (Nat.le_of_ble_eq_true rfl) ?_
 intro A hG hnA hAB
 unfold start
 refine WP.rs hG (Ch.asg rfl rfl (Ch.nil (WP.seq (WP.rs hG (Ch.mv rfl rfl (Ch.p1 rfl (OpS.lenS rfl) rfl (Ch.p2 rfl rfl (OpS.int (v' := .bool false) rfl (by simp [hs, hb])) rfl ?_)))))))
 refine Ch.mv rfl rfl (Ch.gm rfl rfl rfl rfl (Ch.g1 rfl rfl rfl (OpS.lenS rfl) rfl (Ch.g2 rfl rfl rfl rfl (OpS.int (v' := .bool false) rfl (by simp [hs, hb])) rfl ?_)))
 refine Ch.p3 rfl rfl rfl (OpS.pickR) rfl (Ch.nil (WP.cond_false rfl (WP.skip (WP.rs hG (Ch.mv rfl rfl (Ch.callT 0 (words_fc b 16 (by omega) (by omega)) gdN (by repeat (first | exact EvL.nil | (apply EvL.cons; exact rfl))) (by exact (And.intro (by exact .rfl _) trivial)) (by simp) (by exact ⟨rfl, trivial⟩) rfl ?_))))))
 refine Ch.asg rfl rfl (Ch.nil (WP.seq (WP.rs hG (Ch.asg rfl rfl (Ch.nil (WP.block ?_))))))
 refine WP.loop (fun k σ => ∃ m : Nat, (16 ≤ m ∧ m + k = 64) ∧ σ = ⟨222, ls [(0, sA s), (5, .sl (some 0) m ((sched b m).map wA)), (6, .v (.int .i64 (m : Int)))], lh [(0, .tip 120 1 m)], blt 1⟩) (48) (Ent.of [] ?_ ?_ ?_ ?_).se ⟨16, by omega, rfl⟩ ?_
 · exact na_of hnA rfl
 · (repeat (first | exact trivial | (refine ⟨⟨(by first | trivial | (simp; first | done | fail)), _, rfl, (by first | exact .rfl _ | exact .of_eq (by simp [sched_words b 16 (by decide)]; first | done | fail))⟩, ?_⟩)))
 · (repeat (first | exact trivial | (refine ⟨⟨rfl, (by trivial), (by rfl)⟩, ?_⟩)))
 · exact nd_of rfl
 rintro k σ ⟨m, hm, rfl⟩
 have hc := sched_next b m hm.1
 have hl := sched_length b m
 refine WP.seq (WP.rs hG (Ch.mv rfl rfl (Ch.p2 rfl rfl (OpS.int rfl (by exact rfl)) rfl ?_)))
 refine Ch.nil ?_
 refine WP.cond rfl ?_ ?_
 ·
  intro ht
  have ht' := of_decide_eq_true ht
  refine WP.skip (WP.seq (WP.block (WP.rsD (by kernel_rfl) hG (Ch.mv rfl rfl (Ch.mv rfl rfl (Ch.p2 rfl rfl (OpS.int rfl (by exact wr64 (by omega))) rfl ?_))))))
  refine Ch.p2 rfl rfl (OpS.indexM rfl rfl rfl (by with_reducible exact tnLit _ _) (by omega) (by omega) (by omega)) rfl ?_
  refine Ch.p1 rfl (OpS.loadS rfl rfl) rfl (Ch.callP (rot_fc _ 7 (by omega) (by omega)) gdN (.cons rfl (.cons rfl .nil)) (.c (.rfl _) (.c (.rfl _) .n)) (by rfl) rfl ?_)
  refine Ch.mv rfl rfl (Ch.mv rfl rfl (Ch.p2 rfl rfl (OpS.int rfl (by exact wr64 (by omega))) rfl ?_))
  refine Ch.p2 rfl rfl (OpS.indexM rfl rfl rfl (by with_reducible exact tnLit _ _) (by omega) (by omega) (by omega)) rfl ?_
  refine Ch.p1 rfl (OpS.loadS rfl rfl) rfl (Ch.callP (rot_fc _ 18 (by omega) (by omega)) gdN (.cons rfl (.cons rfl .nil)) (.c (.rfl _) (.c (.rfl _) .n)) (by rfl) rfl ?_)
  refine Ch.p2 rfl rfl (OpS.xor_u32) rfl (Ch.mv rfl rfl (Ch.mv rfl rfl (Ch.p2 rfl rfl (OpS.int rfl (by exact wr64 (by omega))) rfl ?_)))
  refine Ch.p2 rfl rfl (OpS.indexM rfl rfl rfl (by with_reducible exact tnLit _ _) (by omega) (by omega) (by omega)) rfl ?_
  refine Ch.p1 rfl (OpS.loadS rfl rfl) rfl (Ch.p2 rfl rfl (OpS.shr_u32 (by decide) (by rfl)) rfl ?_)
  refine Ch.p2 rfl rfl (OpS.xor_u32) rfl (Ch.asg rfl rfl (Ch.nilD ?_ (by kernel_rfl)))
  refine WP.rsD (by kernel_rfl) hG (Ch.mv rfl rfl (Ch.mv rfl rfl (Ch.p2 rfl rfl (OpS.int rfl (by exact wr64 (by omega))) rfl ?_)))
  refine Ch.p2 rfl rfl (OpS.indexM rfl rfl rfl (by with_reducible exact tnLit _ _) (by omega) (by omega) (by omega)) rfl ?_
  refine Ch.p1 rfl (OpS.loadS rfl rfl) rfl (Ch.callP (rot_fc _ 17 (by omega) (by omega)) gdN (.cons rfl (.cons rfl .nil)) (.c (.rfl _) (.c (.rfl _) .n)) (by rfl) rfl ?_)
  refine Ch.mv rfl rfl (Ch.mv rfl rfl (Ch.p2 rfl rfl (OpS.int rfl (by exact wr64 (by omega))) rfl ?_))
  refine Ch.p2 rfl rfl (OpS.indexM rfl rfl rfl (by with_reducible exact tnLit _ _) (by omega) (by omega) (by omega)) rfl ?_
  refine Ch.p1 rfl (OpS.loadS rfl rfl) rfl (Ch.callP (rot_fc _ 19 (by omega) (by omega)) gdN (.cons rfl (.cons rfl .nil)) (.c (.rfl _) (.c (.rfl _) .n)) (by rfl) rfl ?_)
  refine Ch.p2 rfl rfl (OpS.xor_u32) rfl (Ch.mv rfl rfl (Ch.mv rfl rfl (Ch.p2 rfl rfl (OpS.int rfl (by exact wr64 (by omega))) rfl ?_)))
  refine Ch.p2 rfl rfl (OpS.indexM rfl rfl rfl (by with_reducible exact tnLit _ _) (by omega) (by omega) (by omega)) rfl ?_
  refine Ch.p1 rfl (OpS.loadS rfl rfl) rfl (Ch.p2 rfl rfl (OpS.shr_u32 (by decide) (by rfl)) rfl ?_)
  refine Ch.p2 rfl rfl (OpS.xor_u32) rfl (Ch.asg rfl rfl (Ch.nilD ?_ (by kernel_rfl)))
  refine WP.rgD (by kernel_rfl) hG (Ch.mv rfl rfl (Ch.mv rfl rfl (Ch.mv rfl rfl (Ch.mv rfl rfl (Ch.p2 rfl rfl (OpS.int rfl (by exact wr64 (by omega))) rfl ?_)))))
  refine Ch.p2 rfl rfl (OpS.indexM rfl rfl rfl (by with_reducible exact tnLit _ _) (by omega) (by omega) (by omega)) rfl ?_
  refine Ch.p1 rfl (OpS.loadS rfl rfl) rfl (Ch.p2 rfl rfl (OpS.add_u32) rfl (Ch.mv rfl rfl (Ch.p2 rfl rfl (OpS.add_u32) rfl (Ch.mv rfl rfl (Ch.mv rfl rfl (Ch.p2 rfl rfl (OpS.int rfl (by exact wr64 (by omega))) rfl ?_))))))
  refine Ch.p2 rfl rfl (OpS.indexM rfl rfl rfl (by with_reducible exact tnLit _ _) (by omega) (by omega) (by omega)) rfl ?_
  refine Ch.p1 rfl (OpS.loadS rfl rfl) rfl (Ch.p2 rfl rfl (OpS.add_u32) rfl (Ch.pup gdN (by repeat (first | exact EvP.nil | (apply EvP.cons; exact rfl))) (OpS.slice1 rfl rfl rfl rfl rfl rfl (by rfl) rfl (by rfl)) rfl ?_))
  refine Ch.a2 rfl rfl (OpS.append (sz := 1) (bb := 4) 1 rfl rfl rfl rfl rfl (by decide) (SrcA.sl rfl (by simp)) (by (simp; assumption)) (by simp) (by unfold maxLen; omega) rfl (by omega)) rfl rfl rfl ?_
  refine Ch.asg rfl rfl (Ch.nilD ?_ (by kernel_rfl))
  refine WP.rg hG (Ch.mv rfl rfl (Ch.p2 rfl rfl (OpS.int rfl (by exact wr64 (by omega))) rfl ?_))
  refine Ch.asg rfl rfl (Ch.nil ?_)
  refine ⟨k - 1, _, by omega, (Ent.of [1] ?_ ?_ ?_ ?_).se, m + 1, by omega, rfl⟩
  · exact na_of hnA rfl
  · (repeat (first | exact trivial | (refine ⟨⟨(by first | trivial | (simp; first | done | fail)), _, rfl, (by first | exact .rfl _ | exact .of_eq (by simp [hc]; first | done | fail))⟩, ?_⟩)))
  · (repeat (first | exact trivial | (refine ⟨⟨rfl, (by trivial), (by rfl)⟩, ?_⟩)))
  exact nd_of rfl
 intro ht
 have ht' := of_decide_eq_false ht
 obtain rfl : m = 64 := by omega
 clear hc hl ht ht'
 refine WP.exit (WP.rs hG (Ch.mv rfl rfl (Ch.callA 1 (wordsA_fc s 8 (by omega) (by omega) (by omega)) gdN (by repeat (first | exact EvL.nil | (apply EvL.cons; exact rfl))) (by exact (And.intro (by exact .rfl _) trivial)) (by simp) (by exact ⟨rfl, trivial⟩) rfl ?_)))
 refine Ch.asg rfl rfl (Ch.nil (WP.rs hG (Ch.mv rfl rfl (Ch.callP (wordsS_fc s 8 (by omega) (by omega)) gdN (.cons rfl .nil) (.c (.rfl _) .n) (by rfl) rfl ?_))))
 refine Ch.asg rfl rfl (Ch.nil (WP.seq (WP.rs hG (Ch.asg rfl rfl (Ch.nil (WP.block ?_))))))
 refine WP.loop (fun k σ => ∃ m : Nat, m + k = 64 ∧ σ = ⟨222, ls [(5, .sl none 64 ((sched b 64).map wA)), (9, .arr 0 0 8), (10, .sl none 8 ((rounds (readSt s) (sched b 64) m).words.map wA)), (11, .v (.int .i64 (m : Int)))], lh [(0, .cells 120 ((readSt s).words.map wA))], blt 1⟩) (64) (Ent.of [1] ?_ ?_ ?_ ?_).se ⟨0, by omega, rfl⟩ ?_
 · exact na_of hnA rfl
 · (repeat (first | exact trivial | (refine ⟨⟨(by first | trivial | (simp; first | done | fail)), _, rfl, (by first | exact .rfl _ | exact .of_eq (by simp [words_read s, rounds_0]; first | done | fail) | exact AV.wk.sh (by simp [words_read s, rounds_0]; first | done | fail))⟩, ?_⟩)))
 · (repeat (first | exact trivial | (refine ⟨⟨rfl, (by trivial), (by (simp [words_read s, rounds_0]; first | done | fail))⟩, ?_⟩)))
 · exact nd_of rfl
 rintro k1 σ ⟨m, hm, rfl⟩
 have hr := rnd_words (rounds (readSt s) (sched b 64) m) (el kTab m) (el (sched b 64) m)
 have hl := sched_length b 64
 have hx : (rounds (readSt s) (sched b 64) m).words.length = 8 := words_len _
 refine WP.seq (WP.rs hG (Ch.mv rfl rfl (Ch.p2 rfl rfl (OpS.int rfl (by exact rfl)) rfl ?_)))
 refine Ch.nil ?_
 refine WP.cond rfl ?_ ?_
 ·
  intro ht
  have ht' := of_decide_eq_true ht
  refine WP.skip (WP.seq (WP.block (WP.rsD (by kernel_rfl) hG (Ch.mv rfl rfl (Ch.p2 rfl rfl (OpS.indexM rfl rfl rfl (by with_reducible exact tnL _) (by omega) (by omega) (by rfl)) rfl ?_)))))
  refine Ch.p1 rfl (OpS.loadS rfl rfl) rfl (Ch.mv rfl rfl (Ch.p2 rfl rfl (OpS.indexM rfl rfl rfl (by with_reducible exact tnL _) (by omega) (by omega) (by rfl)) rfl ?_))
  refine Ch.p1 rfl (OpS.loadS rfl rfl) rfl (Ch.callP (rot_fc _ 6 (by omega) (by omega)) gdN (.cons rfl (.cons rfl .nil)) (.c (.rfl _) (.c (.rfl _) .n)) (by rfl) rfl ?_)
  refine Ch.mv rfl rfl (Ch.p2 rfl rfl (OpS.indexM rfl rfl rfl (by with_reducible exact tnL _) (by omega) (by omega) (by rfl)) rfl ?_)
  refine Ch.p1 rfl (OpS.loadS rfl rfl) rfl (Ch.callP (rot_fc _ 11 (by omega) (by omega)) gdN (.cons rfl (.cons rfl .nil)) (.c (.rfl _) (.c (.rfl _) .n)) (by rfl) rfl ?_)
  refine Ch.p2 rfl rfl (OpS.xor_u32) rfl (Ch.mv rfl rfl (Ch.p2 rfl rfl (OpS.indexM rfl rfl rfl (by with_reducible exact tnL _) (by omega) (by omega) (by rfl)) rfl ?_))
  refine Ch.p1 rfl (OpS.loadS rfl rfl) rfl (Ch.callP (rot_fc _ 25 (by omega) (by omega)) gdN (.cons rfl (.cons rfl .nil)) (.c (.rfl _) (.c (.rfl _) .n)) (by rfl) rfl ?_)
  refine Ch.p2 rfl rfl (OpS.xor_u32) rfl (Ch.p2 rfl rfl (OpS.add_u32) rfl (Ch.mv rfl rfl (Ch.p2 rfl rfl (OpS.indexM rfl rfl rfl (by with_reducible exact tnL _) (by omega) (by omega) (by rfl)) rfl ?_)))
  refine Ch.p1 rfl (OpS.loadS rfl rfl) rfl (Ch.mv rfl rfl (Ch.p2 rfl rfl (OpS.indexM rfl rfl rfl (by with_reducible exact tnL _) (by omega) (by omega) (by rfl)) rfl ?_))
  refine Ch.p1 rfl (OpS.loadS rfl rfl) rfl (Ch.p2 rfl rfl (OpS.and_u32) rfl (Ch.mv rfl rfl (Ch.p2 rfl rfl (OpS.indexM rfl rfl rfl (by with_reducible exact tnL _) (by omega) (by omega) (by rfl)) rfl ?_)))
  refine Ch.p1 rfl (OpS.loadS rfl rfl) rfl (Ch.p2 rfl rfl (OpS.xorAll) rfl (Ch.mv rfl rfl (Ch.p2 rfl rfl (OpS.indexM rfl rfl rfl (by with_reducible exact tnL _) (by omega) (by omega) (by rfl)) rfl ?_)))
  refine Ch.p1 rfl (OpS.loadS rfl rfl) rfl (Ch.p2 rfl rfl (OpS.and_u32) rfl (Ch.p2 rfl rfl (OpS.xor_u32) rfl (Ch.p2 rfl rfl (OpS.add_u32) rfl (Ch.mv rfl rfl (Ch.p2 rfl rfl (OpS.indexAddrG (sz := 1) rfl rfl rfl (by omega) (by omega)) rfl ?_)))))
  refine Ch.p1 rfl (OpS.loadG (arr := kArr) (v := .int .u32 (U32 (el kTab m))) rfl rfl hk (kArr_get m (by omega))) rfl ?_
  refine Ch.p2 rfl rfl (OpS.add_u32) rfl (Ch.mv rfl rfl (Ch.mv rfl rfl (Ch.p2 rfl rfl (OpS.indexM rfl rfl rfl (by with_reducible exact Int.toNat_natCast _) (by omega) (by omega) (by omega)) rfl ?_)))
  refine Ch.p1 rfl (OpS.loadS rfl rfl) rfl (Ch.p2 rfl rfl (OpS.add_u32) rfl (Ch.asg rfl rfl (Ch.nilD ?_ (by kernel_rfl))))
  refine WP.rsD (by kernel_rfl) hG (Ch.mv rfl rfl (Ch.p2 rfl rfl (OpS.indexM rfl rfl rfl (by with_reducible exact tnL _) (by omega) (by omega) (by rfl)) rfl ?_))
  refine Ch.p1 rfl (OpS.loadS rfl rfl) rfl (Ch.callP (rot_fc _ 2 (by omega) (by omega)) gdN (.cons rfl (.cons rfl .nil)) (.c (.rfl _) (.c (.rfl _) .n)) (by rfl) rfl ?_)
  refine Ch.mv rfl rfl (Ch.p2 rfl rfl (OpS.indexM rfl rfl rfl (by with_reducible exact tnL _) (by omega) (by omega) (by rfl)) rfl ?_)
  refine Ch.p1 rfl (OpS.loadS rfl rfl) rfl (Ch.callP (rot_fc _ 13 (by omega) (by omega)) gdN (.cons rfl (.cons rfl .nil)) (.c (.rfl _) (.c (.rfl _) .n)) (by rfl) rfl ?_)
  refine Ch.p2 rfl rfl (OpS.xor_u32) rfl (Ch.mv rfl rfl (Ch.p2 rfl rfl (OpS.indexM rfl rfl rfl (by with_reducible exact tnL _) (by omega) (by omega) (by rfl)) rfl ?_))
  refine Ch.p1 rfl (OpS.loadS rfl rfl) rfl (Ch.callP (rot_fc _ 22 (by omega) (by omega)) gdN (.cons rfl (.cons rfl .nil)) (.c (.rfl _) (.c (.rfl _) .n)) (by rfl) rfl ?_)
  refine Ch.p2 rfl rfl (OpS.xor_u32) rfl (Ch.mv rfl rfl (Ch.p2 rfl rfl (OpS.indexM rfl rfl rfl (by with_reducible exact tnL _) (by omega) (by omega) (by rfl)) rfl ?_))
  refine Ch.p1 rfl (OpS.loadS rfl rfl) rfl (Ch.mv rfl rfl (Ch.p2 rfl rfl (OpS.indexM rfl rfl rfl (by with_reducible exact tnL _) (by omega) (by omega) (by rfl)) rfl ?_))
  refine Ch.p1 rfl (OpS.loadS rfl rfl) rfl (Ch.p2 rfl rfl (OpS.and_u32) rfl (Ch.mv rfl rfl (Ch.p2 rfl rfl (OpS.indexM rfl rfl rfl (by with_reducible exact tnL _) (by omega) (by omega) (by rfl)) rfl ?_)))
  refine Ch.p1 rfl (OpS.loadS rfl rfl) rfl (Ch.mv rfl rfl (Ch.p2 rfl rfl (OpS.indexM rfl rfl rfl (by with_reducible exact tnL _) (by omega) (by omega) (by rfl)) rfl ?_))
  refine Ch.p1 rfl (OpS.loadS rfl rfl) rfl (Ch.p2 rfl rfl (OpS.and_u32) rfl (Ch.p2 rfl rfl (OpS.xor_u32) rfl (Ch.mv rfl rfl (Ch.p2 rfl rfl (OpS.indexM rfl rfl rfl (by with_reducible exact tnL _) (by omega) (by omega) (by rfl)) rfl ?_))))
  refine Ch.p1 rfl (OpS.loadS rfl rfl) rfl (Ch.mv rfl rfl (Ch.p2 rfl rfl (OpS.indexM rfl rfl rfl (by with_reducible exact tnL _) (by omega) (by omega) (by rfl)) rfl ?_))
  refine Ch.p1 rfl (OpS.loadS rfl rfl) rfl (Ch.p2 rfl rfl (OpS.and_u32) rfl (Ch.p2 rfl rfl (OpS.xor_u32) rfl (Ch.p2 rfl rfl (OpS.add_u32) rfl (Ch.asg rfl rfl (Ch.nilD ?_ (by kernel_rfl))))))
  refine WP.rgD (by kernel_rfl) hG (Ch.mv rfl rfl (Ch.mv rfl rfl (Ch.p2 rfl rfl (OpS.add_u32) rfl (Ch.mv rfl rfl (Ch.p2 rfl rfl (OpS.indexM rfl rfl rfl (by with_reducible exact tnL _) (by omega) (by omega) (by rfl)) rfl ?_)))))
  refine Ch.p1 rfl (OpS.loadS rfl rfl) rfl (Ch.mv rfl rfl (Ch.p2 rfl rfl (OpS.indexM rfl rfl rfl (by with_reducible exact tnL _) (by omega) (by omega) (by rfl)) rfl ?_))
  refine Ch.p1 rfl (OpS.loadS rfl rfl) rfl (Ch.mv rfl rfl (Ch.p2 rfl rfl (OpS.indexM rfl rfl rfl (by with_reducible exact tnL _) (by omega) (by omega) (by rfl)) rfl ?_))
  refine Ch.p1 rfl (OpS.loadS rfl rfl) rfl (Ch.mv rfl rfl (Ch.p2 rfl rfl (OpS.indexM rfl rfl rfl (by with_reducible exact tnL _) (by omega) (by omega) (by rfl)) rfl ?_))
  refine Ch.p1 rfl (OpS.loadS rfl rfl) rfl (Ch.mv rfl rfl (Ch.p2 rfl rfl (OpS.add_u32) rfl (Ch.mv rfl rfl (Ch.p2 rfl rfl (OpS.indexM rfl rfl rfl (by with_reducible exact tnL _) (by omega) (by omega) (by rfl)) rfl ?_))))
  refine Ch.p1 rfl (OpS.loadS rfl rfl) rfl (Ch.mv rfl rfl (Ch.p2 rfl rfl (OpS.indexM rfl rfl rfl (by with_reducible exact tnL _) (by omega) (by omega) (by rfl)) rfl ?_))
  refine Ch.p1 rfl (OpS.loadS rfl rfl) rfl (Ch.mv rfl rfl (Ch.p2 rfl rfl (OpS.indexM rfl rfl rfl (by with_reducible exact tnL _) (by omega) (by omega) (by rfl)) rfl ?_))
  refine Ch.p1 rfl (OpS.loadS rfl rfl) rfl (Ch.pup gdN (by repeat (first | exact EvP.nil | (apply EvP.cons; exact rfl))) (OpS.slice1 rfl rfl rfl rfl rfl rfl (by rfl) rfl (by rfl)) rfl ?_)
  refine Ch.asg rfl rfl (Ch.nilD ?_ (by kernel_rfl))
  refine WP.rg hG (Ch.mv rfl rfl (Ch.p2 rfl rfl (OpS.int rfl (by exact wr64 (by omega))) rfl ?_))
  refine Ch.asg rfl rfl (Ch.nil ?_)
  refine ⟨k1 - 1, _, by omega, (Ent.of [] ?_ ?_ ?_ ?_).se, m + 1, by omega, rfl⟩
  · exact na_of hnA rfl
  · (repeat (first | exact trivial | (refine ⟨⟨(by first | trivial | (simp; first | done | fail)), _, rfl, (by first | exact .rfl _ | exact .of_eq (by simp [rounds_next, hr]; first | done | fail))⟩, ?_⟩)))
  · (repeat (first | exact trivial | (refine ⟨⟨rfl, (by trivial), (by rfl)⟩, ?_⟩)))
  exact nd_of rfl
 intro ht
 have ht' := of_decide_eq_false ht
 obtain rfl : m = 64 := by omega
 clear hr hl hx ht ht'
 refine WP.exit (WP.seq (WP.rs hG (Ch.asg rfl rfl (Ch.nil (WP.block ?_)))))
 refine WP.loop (fun k σ => ∃ m : Nat, m + k = 8 ∧ σ = ⟨222, ls [(9, .arr 0 0 8), (10, .sl none 8 ((rounds (readSt s) (sched b 64) 64).words.map wA)), (14, .v (.int .i64 (m : Int)))], lh [(0, .cells 120 ((partAdd (readSt s) (rounds (readSt s) (sched b 64) 64) m).map wA))], blt 1⟩) (8) (Ent.of [] ?_ ?_ ?_ ?_).se ⟨0, by omega, rfl⟩ ?_
 · exact na_of hnA rfl
 · (repeat (first | exact trivial | (refine ⟨⟨(by trivial), _, rfl, .rfl _⟩, ?_⟩)))
 · (repeat (first | exact trivial | (refine ⟨⟨rfl, (by (simp; first | done | fail)), (by (simp [part_0]; first | done | fail))⟩, ?_⟩)))
 · exact nd_of rfl
 rintro k2 σ ⟨m, hm, rfl⟩
 have hg := part_get (readSt s) (rounds (readSt s) (sched b 64) 64) m
 have hp := part_set (readSt s) (rounds (readSt s) (sched b 64) 64) m
 refine WP.seq (WP.rs hG (Ch.mv rfl rfl (Ch.p2 rfl rfl (OpS.int rfl (by exact rfl)) rfl ?_)))
 refine Ch.nil ?_
 refine WP.cond rfl ?_ ?_
 ·
  intro ht
  have ht' := of_decide_eq_true ht
  refine WP.skip (WP.seq (WP.block (WP.rgD (by kernel_rfl) hG (Ch.mv rfl rfl (Ch.mv rfl rfl (Ch.mv rfl rfl (Ch.mv rfl rfl (Ch.p2 rfl rfl (OpS.indexAddrA (sz := 1) rfl rfl rfl (by omega) (by omega)) rfl ?_))))))))
  refine Ch.q1 rfl (OpS.loadP (c := wA (el (readSt s).words m)) rfl rfl (hg (by omega))) rfl rfl ?_
  refine Ch.mv rfl rfl (Ch.mv rfl rfl (Ch.p2 rfl rfl (OpS.indexM rfl rfl rfl (by with_reducible exact Int.toNat_natCast _) (by omega) (by omega) (by rfl)) rfl ?_))
  refine Ch.p1 rfl (OpS.loadS rfl rfl) rfl (Ch.p2 rfl rfl (OpS.add_u32) rfl (Ch.p2 rfl rfl (OpS.indexAddrA (sz := 1) rfl rfl rfl (by omega) (by omega)) rfl ?_))
  refine Ch.ws rfl rfl (OpS.storeP (cs := (partAdd (readSt s) (rounds (readSt s) (sched b 64) 64) m).map wA) rfl rfl rfl (by rw [part_len]; omega)) rfl ?_
  refine Ch.nilD ?_ (by kernel_rfl)
  refine WP.rg hG (Ch.mv rfl rfl (Ch.p2 rfl rfl (OpS.int rfl (by exact wr64 (by omega))) rfl ?_))
  refine Ch.asg rfl rfl (Ch.nil ?_)
  refine ⟨k2 - 1, _, by omega, (Ent.of [] ?_ ?_ ?_ ?_).se, m + 1, by omega, rfl⟩
  · exact na_of hnA rfl
  · (repeat (first | exact trivial | (refine ⟨⟨(by trivial), _, rfl, .rfl _⟩, ?_⟩)))
  · (repeat (first | exact trivial | (refine ⟨⟨rfl, (by (simp; first | done | fail)), (by (simp [hp (by omega)]; first | done | fail))⟩, ?_⟩)))
  exact nd_of rfl
 intro ht
 have ht' := of_decide_eq_false ht
 obtain rfl : m = 8 := by omega
 refine WP.exit ?_
 rw [part_8]
 have hwl : (mixed (readSt s) b).words.length = 8 := words_len _
 refine WP.from (SEnt.freeze (t := 9) (c := 0) (n := 8) (m := 0) rfl rfl (by rw [List.length_map]; exact words_len _) (by intro x hx; simp at hx; obtain ⟨y, _, rfl⟩ := hx; exact ⟨_, rfl⟩) (by rw [hnA]; exact Nat.le_refl _)) ?_
 refine WP.rs hG (Ch.mv rfl rfl (Ch.callP (text_fc (mixed (readSt s) b).words (by rw [words_len]; decide)) gdN (.cons rfl .nil) (.c (.rfl _) .n) (by rfl) rfl ?_))
 refine Ch.asg rfl rfl (Ch.nil ?_)
 refine WP.ret (Ret.one rfl (by exact .rfl _) (by trivial) hnA)
end Go.Proofs.YtpnbpcopdckgpaaGreatDoor.E
namespace Go.Proofs.YtpnbpcopdckgpaaGreatDoor.V
open Go Go.RowKit
attribute [local go_sem] B_size B_append B_extract mk_B B_toList take_drop_len List.length_drop List.length_take sgn32 sgn64 add32 sub32 mul32 add64 sub64 mul64 mul64_8 and32 or32 xor32 and64 or64 xor64 shl32_run shr32_run shl64_run shr64_run not32 not32' xor32_all w_u32_u8 w_u64_u8 w_i64_u8 w_u8_u32 w_u8_u64 w_u32_u64 w_u64_u32 w_u8_u8 w_u32_u32 w_u64_u64
attribute [local go_sem ↓] run_index_B' add32 sub32 mul32 add64 sub64 mul64 mul64_8 and32 or32 xor32 and64 or64 xor64 shl32_run shr32_run shl64_run shr64_run not32 not32' xor32_all w_u32_u8 w_u64_u8 w_i64_u8 w_u8_u32 w_u8_u64 w_u32_u64 w_u64_u32 w_u8_u8 w_u32_u32 w_u64_u64 w_u64_nat w_u32_nat w_u8_nat
set_option maxRecDepth 4000
theorem be4_len (x : UInt32) : (be4 x).length = 4 := rfl
theorem input_take (d : UInt8) (ps : List (List UInt8)) (n : Nat) (h : n < ps.length) :
  input d (ps.take (n + 1)) = input d (ps.take n) ++ be4 (UInt32.ofNat (sget ps n).length) ++ sget ps n := by
 rw [List.take_succ_eq_append_getElem h]
 simp only [input, List.flatMap_append, List.flatMap_cons, List.flatMap_nil, List.append_nil, List.cons_append, List.append_assoc, sget, List.getElem?_eq_getElem h, Option.getD_some]
theorem input_many (d : UInt8) (ps : List (List UInt8)) : ps.length < (input d ps).length := by
 induction ps with
 | nil => simp [input]
 | cons p ps ih =>
  simp only [input, List.flatMap_cons, List.length_cons, List.length_append, be4_len] at ih ⊢
  omega
theorem input_le (d : UInt8) (ps : List (List UInt8)) (n : Nat) : (input d (ps.take n)).length ≤ (input d ps).length := by
 have h : input d ps = input d (ps.take n) ++ (ps.drop n).flatMap fun p => be4 (UInt32.ofNat p.length) ++ p := by
  simp only [input, List.cons_append]
  rw [← List.flatMap_append, List.take_append_drop]
 rw [h, List.length_append]
 omega
set_option maxHeartbeats 1000000 in
set_option maxRecDepth 100000 in
theorem input_ok (d : UInt8) (v : Value) (ps : List (List UInt8)) (w : World) (hS : Strs w v ps) (hL : (input d ps).length ≤ 140737488355328) :
  Calls Tryz.prog 68 #[.int .u8 (U8 d), v] w fun e w' => e = .returned (.string (B (input d ps))) ∧ Fr [] w w' := by
 obtain ⟨a, cap, rfl, hcap, hmx, hc⟩ := hS
 have hpl : (ps.length : Int) ≤ 140737488355328 := by have := input_many d ps; omega
 have hp0 : (0 : Int) ≤ (ps.length : Int) := by omega
 have HC := Lib.hid hc
 have HL := Lib.hid hL
 clear hc hL hcap hmx
 go_enter Tryz.func68, Tryz.ntmps68
 go_wp2_with fail
 refine (writeByte_ok (w.heap.size + 1) w.heap.size (.slice none 0 0) [] d _ (Bld.fresh w _) (by simp) (by simp)).mono ?_
 rintro e w1 ⟨rfl, v1, hb1, hf1, ho1⟩
 have hF1 : Fr [] w w1 := ((Fr.refl [] w).alloc _).trans' hf1 (fun _ h => .inl h) (fun x hx => .inr (by simp [Value.ownBlock] at hx; omega))
 have HB1 := Lib.hid hb1
 have HF1 := Lib.hid hF1
 clear hb1 hf1 ho1 hF1
 go_wp2_with fail
 go_loopg [12] ps.length (fun k i wr => ∃ (n : Nat) (vb : Value), i = .int .i64 (n : Int) ∧ Hid (n + k = ps.length) ∧ Hid (Bld wr (w.heap.size + 1) w.heap.size vb (input d (ps.take n))) ∧ Hid (Fr [] w wr))
 case atStart => exact ⟨0, v1, rfl, (show _ = _ from by omega), HB1, HF1⟩
 case round =>
  obtain ⟨n, vb, rfl, HN, H1, H2⟩ := hrel
  have h0n : (0 : Int) ≤ (n : Int) := by omega
  by_cases hk : gk = 0
  ·
   subst hk
   have e1 : (ps.length : Int) ≤ (n : Int) := by have := HN.out; omega
   have e2 : ps.take n = ps := List.take_of_length_le (by omega)
   have E2 := Lib.hid e2
   clear e2
   go_wp2_with fail
   refine (builderString_ok _ _ vb _ _ H1.out (by simp [input])).mono ?_
   rintro e w2 ⟨rfl, hf2⟩
   have HF2 : Hid (Fr [] w w2) := H2.out.trans' hf2 (fun _ h => .inl h) (fun x hx => .inr (by have := (H1.out.own.lt x (by simpa using hx)).1; omega))
   clear hf2
   go_wp2
   go_ret
   exact ⟨by rw [E2.out]; rfl, HF2.out⟩
  have e1 : (n : Int) < (ps.length : Int) := by have := HN.out; omega
  obtain ⟨b, off, rfl, hb, hx⟩ := HC.out n (by omega)
  have hx' : wr.cell? ⟨b, off + n, none⟩ = some (.string (B (sget ps n))) := by rw [H2.out.cell hb (by simp)]; exact hx
  have hlen : (input d (ps.take n)).length + 4 + (sget ps n).length ≤ 140737488355328 := by
   have h1 := input_le d ps (n + 1)
   rw [input_take d ps n (by omega)] at h1
   simp only [List.length_append, be4_len] at h1
   have := HL.out
   omega
  have ew : IntKind.i64.wrap ((n : Int) + 1) = (n : Int) + 1 := by rw [IntKind.wrap_i64]; omega
  clear hx hb
  have hpn : ((sget ps n).length : Int) ≤ 140737488355328 := by omega
  have HLEN := Lib.hid hlen
  clear hlen
  go_wp2_with fail
  refine (lay_ok (UInt32.ofNat (sget ps n).length) wr.heap.size (.slice none 0 0) [] _ (obytes_nil _ _) (by simp) ?hbase).mono ?_
  case hbase => simp
  rintro e w2 ⟨v2, rfl, h2, hf2, ho2⟩
  have hF2 : Fr [] wr w2 := hf2.mono (fun x hx => by simp [Value.ownBlock] at hx)
  obtain ⟨g2, cap2, rfl⟩ := h2.slice
  have hge : ∀ k, (Value.slice g2 (([] : List UInt8) ++ be4 (UInt32.ofNat (sget ps n).length)).length cap2).ownBlock = some k → wr.heap.size ≤ k := fun k hk => (h2.lt k hk).1
  have H1' : Hid (Bld w2 (w.heap.size + 1) w.heap.size vb (input d (ps.take n))) := H1.out.kept hF2 (by simp) (by simp)
  have H2' : Hid (Fr [] w w2) := H2.out.trans hF2
  have HB2 := Lib.hid h2
  have HGE := Lib.hid hge
  clear h2 hf2 ho2 hF2 hge
  go_wp2_with fail
  refine (write_ok (w.heap.size + 1) w.heap.size vb _ (be4 (UInt32.ofNat (sget ps n).length)) _ _ wr.heap.size _ H1'.out ?hb ?hbase HB2.out ?hne).mono ?_
  case hb => rw [be4_len]; have := HLEN.out; omega
  case hbase => exact H1'.out.lt
  case hne =>
   intro hk
   have h1 := HGE.out _ hk
   have h2 := H1.out.lt
   omega
  rintro e w3 ⟨rfl, v3, h3, hf3, ho3⟩
  have H3 := Lib.hid h3
  have HF3 : Hid (Fr [] w w3) := H2'.out.trans' hf3 (fun _ h => .inl h) (fun x hx => .inr (by
   rcases List.mem_cons.1 hx with rfl | hx
   · exact Nat.le_refl _
   have := (H1'.out.own.lt x (by simpa using hx)).1; omega))
  clear h3 hf3 ho3
  go_wp2_with fail
  refine (writeString_ok (w.heap.size + 1) w.heap.size v3 _ (sget ps n) _ H3.out ?hb ?hbase).mono ?_
  case hb => rw [List.length_append, be4_len]; have := HLEN.out; omega
  case hbase => exact H3.out.lt
  rintro e w4 ⟨rfl, v4, h4, hf4, ho4⟩
  have H4 := Lib.hid h4
  have HF4 : Hid (Fr [] w w4) := HF3.out.trans' hf4 (fun _ h => .inl h) (fun x hx => .inr (by
   rcases List.mem_cons.1 hx with rfl | hx
   · exact Nat.le_refl _
   have := (H3.out.own.lt x (by simpa using hx)).1; omega))
  clear h4 hf4 ho4
  go_wp2
  go_roundg (gk - 1)
  case rel =>
   refine ⟨n + 1, v4, rfl, (show _ = _ from by have := HN.out; omega), (show Bld _ _ _ _ _ from ?_), HF4⟩
   rw [input_take d ps n (by have := HN.out; omega)]
   exact H4.out
  case measure => omega
set_option maxHeartbeats 1000000 in
set_option maxRecDepth 100000 in
theorem tag_ok (d : UInt8) (v : Value) (ps : List (List UInt8)) (w : World) (hT : Tabs w) (hS : Strs w v ps) (hL : (input d ps).length ≤ 140737488355328) :
  Calls Tryz.prog 41 #[.int .u8 (U8 d), v] w fun e w' => e = .returned (.string (B (tag d ps))) ∧ Fr [] w w' := by
 have HT := Lib.hid hT
 have hL' := hL
 have HS := Lib.hid hS
 obtain ⟨a, cap, rfl, _⟩ := hS
 have HL := Lib.hid hL
 clear hL hL' hT
 go_enter Tryz.func41, Tryz.ntmps41
 go_wp2_with fail
 refine (input_ok d _ ps _ HS.out HL.out).mono ?_
 rintro e w1 ⟨rfl, hf1⟩
 have HF1 := Lib.hid hf1
 clear hf1
 go_wp2_with fail
 refine (sum_ok _ _ (HT.out.fr HF1.out (by simp) (by simp)) (by have := HL.out; omega)).mono ?_
 rintro e w2 ⟨rfl, hf2⟩
 have HF2 := Lib.hid hf2
 clear hf2
 go_wp2
 go_ret
 exact ⟨rfl, HF1.out.trans HF2.out⟩
end Go.Proofs.YtpnbpcopdckgpaaGreatDoor.V
