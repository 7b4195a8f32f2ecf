/- The walk of ShaBlocks. -/
import Derived.Test.YtkhhhdjpkhnmkaaDoorER5
namespace Go.Proofs.YtkhhhdjpkhnmkaaDoor.E
open Go Go.RowKit Go.Proofs.YtkhhhdjpkhnmkaaDoor.V
attribute [local go_sem] B_size B_append B_extract mk_B B_toList take_drop_len List.length_drop List.length_take sgn32 sgn64 add32 sub32 mul32 add64 sub64 mul64 mul64_8 and32 or32 xor32 and64 or64 xor64 shl32_run shr32_run shl64_run shr64_run not32 not32' xor32_all w_u32_u8 w_u64_u8 w_i64_u8 w_u8_u32 w_u8_u64 w_u32_u64 w_u64_u32 w_u8_u8 w_u32_u32 w_u64_u64
attribute [local go_sem ↓] run_index_B' add32 sub32 mul32 add64 sub64 mul64 mul64_8 and32 or32 xor32 and64 or64 xor64 shl32_run shr32_run shl64_run shr64_run not32 not32' xor32_all w_u32_u8 w_u64_u8 w_i64_u8 w_u8_u32 w_u8_u64 w_u32_u64 w_u64_u32 w_u8_u8 w_u32_u32 w_u64_u64 w_u64_nat w_u32_nat w_u8_nat

/-- a text, cut or filled with noughts to a length -/
def fit (n : Nat) (l : List UInt8) : List UInt8 := l.take n ++ List.replicate (n - (l.take n).length) 0
theorem fit_length (n : Nat) (l : List UInt8) : (fit n l).length = n := by simp [fit]; omega
theorem fit_cells (n : Nat) (l : List UInt8) : ((splice (List.replicate n (.v (.int .u8 0))) 0 ((l.take n).map bA)).drop 0).take n = (fit n l).map bA := by
  have h1 : (l.take n).length ≤ n := by simp; omega
  have h0 : (.v (.int .u8 0) : AV) = bA 0 := rfl
  unfold splice fit
  rw [h0]
  generalize l.take n = m at *
  rw [List.take_zero, List.nil_append, List.drop_zero, List.length_map, Nat.zero_add, List.drop_replicate, List.map_append, List.map_replicate, List.take_of_length_le]
  simp
  omega
theorem shaBlocks_fc {G : List (Nat × Array Value)} (hm : ShaIn G) (hk : (0, kArr) ∈ G) (s b : List UInt8) :
    FC Tryd.prog G 4 [sA s, sA b] [] (.v (.bool true)) [] := by
  refine FC.of_wp [4] Tryd.func4 rfl rfl rfl rfl (by first | trivial | (simp; first | done | fail)) (by first | trivial | (simp; first | done | fail)) (by exact Nat.le_of_ble_eq_true rfl) ?_
  intro A hG hnA hAB
  unfold start
  refine WP.rs hG ?_
  refine Ch.pu gdN (by exact ⟨rfl, trivial⟩) (OpS.assign) (by first | exact trivial | exact ⟨rfl, trivial⟩) rfl ?_
  refine Ch.nil ?_
  refine WP.rs hG ?_
  refine Ch.callP (awake_fc hm) gdN (by repeat (first | exact EvL.nil | (apply EvL.cons; exact rfl))) (by exact trivial) (by rfl) rfl ?_
  refine Ch.pu gdN (by exact ⟨rfl, trivial⟩) (OpS.assign) (by first | exact trivial | exact ⟨rfl, trivial⟩) rfl ?_
  refine Ch.nil ?_
  refine WP.rs hG ?_
  refine Ch.al gdN (by exact ⟨rfl, rfl, trivial⟩) (OpS.make (n := 32) 0 rfl rfl rfl rfl rfl rfl rfl (by decide) (by decide)) (by first | exact trivial | exact ⟨rfl, trivial⟩) (by first | exact trivial | exact ⟨rfl, trivial⟩ | exact ⟨rfl, rfl, trivial⟩) rfl ?_
  refine Ch.pu gdN (by exact ⟨rfl, trivial⟩) (OpS.assign) (by first | exact trivial | exact ⟨rfl, trivial⟩) rfl ?_
  refine Ch.nil ?_
  refine WP.rs hG ?_
  refine Ch.al gdN (by exact ⟨rfl, rfl, trivial⟩) (OpS.make (n := 64) 1 rfl rfl rfl rfl rfl rfl rfl (by decide) (by decide)) (by first | exact trivial | exact ⟨rfl, trivial⟩) (by first | exact trivial | exact ⟨rfl, trivial⟩ | exact ⟨rfl, rfl, trivial⟩) rfl ?_
  refine Ch.pu gdN (by exact ⟨rfl, trivial⟩) (OpS.assign) (by first | exact trivial | exact ⟨rfl, trivial⟩) rfl ?_
  refine Ch.nil ?_
  refine WP.rs hG ?_
  refine Ch.pu gdN (by exact ⟨rfl, trivial⟩) (OpS.move) (by first | exact trivial | exact ⟨rfl, trivial⟩) rfl ?_
  refine Ch.pu gdN (by exact ⟨rfl, trivial⟩) (OpS.move) (by first | exact trivial | exact ⟨rfl, trivial⟩) rfl ?_
  refine Ch.al gdN (by exact ⟨rfl, rfl, trivial⟩) (OpS.copyS (cs := List.replicate 32 (.v (.int .u8 0))) (l := s) rfl rfl rfl (by simp)) (by first | exact trivial | exact ⟨rfl, trivial⟩) (by first | exact trivial | exact ⟨rfl, trivial⟩ | exact ⟨rfl, rfl, trivial⟩) rfl ?_
  refine Ch.nil ?_
  refine WP.rs hG ?_
  refine Ch.pu gdN (by exact ⟨rfl, trivial⟩) (OpS.move) (by first | exact trivial | exact ⟨rfl, trivial⟩) rfl ?_
  refine Ch.pu gdN (by exact ⟨rfl, trivial⟩) (OpS.move) (by first | exact trivial | exact ⟨rfl, trivial⟩) rfl ?_
  refine Ch.al gdN (by exact ⟨rfl, rfl, trivial⟩) (OpS.copyS (cs := List.replicate 64 (.v (.int .u8 0))) (l := b) rfl rfl rfl (by simp)) (by first | exact trivial | exact ⟨rfl, trivial⟩) (by first | exact trivial | exact ⟨rfl, trivial⟩ | exact ⟨rfl, rfl, trivial⟩) rfl ?_
  refine Ch.nil ?_
  refine WP.rs hG ?_
  refine Ch.pu gdN (by exact ⟨rfl, trivial⟩) (OpS.move) (by first | exact trivial | exact ⟨rfl, trivial⟩) rfl ?_
  first | (refine Ch.pu gdN (by exact ⟨rfl, trivial⟩) (OpS.b2sA (l := fit 32 s) rfl rfl rfl (fit_length 32 s).symm (fit_cells 32 s)) (by first | exact trivial | exact ⟨rfl, trivial⟩) rfl ?_) | (refine Ch.pu gdN (by exact ⟨rfl, trivial⟩) (OpS.b2sA (l := fit 64 b) rfl rfl rfl (fit_length 64 b).symm (fit_cells 64 b)) (by first | exact trivial | exact ⟨rfl, trivial⟩) rfl ?_) | (refine Ch.pu gdN (by exact ⟨rfl, trivial⟩) (OpS.conv rfl rfl (by first | exact cv_u32_u8 _ | exact cv_u64_u8 _ | exact cv_i64_u8 _ | exact cv_u8_u32 _ | exact cv_u8_u64 _ | exact cv_u32_u64 _ | exact cv_u64_u32 _ | exact cv_u8_u8 _ | exact cv_u32_u32 _ | exact cv_u64_u64 _ | exact wr64 (by omega) | exact cv_u64_nat _ | exact cv_u32_nat _ | exact cv_u8_nat _ | exact rfl)) (by first | exact trivial | exact ⟨rfl, trivial⟩) rfl ?_) | (refine Ch.pu gdN (by exact ⟨rfl, trivial⟩) (OpS.b2s rfl rfl rfl (by first | rfl | (simp; done) | omega)) (by first | exact trivial | exact ⟨rfl, trivial⟩) rfl ?_) | (refine Ch.pu gdN (by exact ⟨rfl, trivial⟩) (OpS.convR (by intro w; go_simp; with_reducible rfl)) (by first | exact trivial | exact ⟨rfl, trivial⟩) rfl ?_)
  refine Ch.pu gdN (by exact ⟨rfl, trivial⟩) (OpS.move) (by first | exact trivial | exact ⟨rfl, trivial⟩) rfl ?_
  first | (refine Ch.pu gdN (by exact ⟨rfl, trivial⟩) (OpS.b2sA (l := fit 32 s) rfl rfl rfl (fit_length 32 s).symm (fit_cells 32 s)) (by first | exact trivial | exact ⟨rfl, trivial⟩) rfl ?_) | (refine Ch.pu gdN (by exact ⟨rfl, trivial⟩) (OpS.b2sA (l := fit 64 b) rfl rfl rfl (fit_length 64 b).symm (fit_cells 64 b)) (by first | exact trivial | exact ⟨rfl, trivial⟩) rfl ?_) | (refine Ch.pu gdN (by exact ⟨rfl, trivial⟩) (OpS.conv rfl rfl (by first | exact cv_u32_u8 _ | exact cv_u64_u8 _ | exact cv_i64_u8 _ | exact cv_u8_u32 _ | exact cv_u8_u64 _ | exact cv_u32_u64 _ | exact cv_u64_u32 _ | exact cv_u8_u8 _ | exact cv_u32_u32 _ | exact cv_u64_u64 _ | exact wr64 (by omega) | exact cv_u64_nat _ | exact cv_u32_nat _ | exact cv_u8_nat _ | exact rfl)) (by first | exact trivial | exact ⟨rfl, trivial⟩) rfl ?_) | (refine Ch.pu gdN (by exact ⟨rfl, trivial⟩) (OpS.b2s rfl rfl rfl (by first | rfl | (simp; done) | omega)) (by first | exact trivial | exact ⟨rfl, trivial⟩) rfl ?_) | (refine Ch.pu gdN (by exact ⟨rfl, trivial⟩) (OpS.convR (by intro w; go_simp; with_reducible rfl)) (by first | exact trivial | exact ⟨rfl, trivial⟩) rfl ?_)
  refine Ch.callP (block_fc hm (fit 32 s) (fit 64 b) (fit_length _ _) (fit_length _ _)) gdN (by repeat (first | exact EvL.nil | (apply EvL.cons; exact rfl))) (by exact (And.intro (by first | exact .rfl _ | exact .untip _ _ _ | exact .nil | exact .func _) (And.intro (by first | exact .rfl _ | exact .untip _ _ _ | exact .nil | exact .func _) trivial))) (by rfl) rfl ?_
  refine Ch.pu gdN (by exact ⟨rfl, trivial⟩) (OpS.assign) (by first | exact trivial | exact ⟨rfl, trivial⟩) rfl ?_
  refine Ch.nil ?_
  refine WP.rs hG ?_
  refine Ch.pu gdN (by exact ⟨rfl, trivial⟩) (OpS.move) (by first | exact trivial | exact ⟨rfl, trivial⟩) rfl ?_
  refine Ch.pu gdN (by exact ⟨rfl, trivial⟩) (OpS.move) (by first | exact trivial | exact ⟨rfl, trivial⟩) rfl ?_
  first | (refine Ch.sk (gdF rfl rfl rfl) ?_) | (refine Ch.pu (by exact gdT rfl rfl) (by exact ⟨rfl, trivial⟩) (OpS.move) (by first | exact trivial | exact ⟨rfl, trivial⟩) rfl ?_)
  first | (refine Ch.sk (gdF rfl rfl rfl) ?_) | (refine Ch.pu (by exact gdT rfl rfl) (by exact ⟨rfl, trivial⟩) (OpS.lenS rfl) (by first | exact trivial | exact ⟨rfl, trivial⟩) rfl ?_) | (refine Ch.pu (by exact gdT rfl rfl) (by exact ⟨rfl, trivial⟩) (OpS.len rfl) (by first | exact trivial | exact ⟨rfl, trivial⟩) rfl ?_) | (refine Ch.pu (by exact gdT rfl rfl) (by exact ⟨rfl, trivial⟩) (OpS.lenA rfl) (by first | exact trivial | exact ⟨rfl, trivial⟩) rfl ?_) | (refine Ch.pu (by exact gdT rfl rfl) (by exact ⟨rfl, trivial⟩) (OpS.lenN rfl) (by first | exact trivial | exact ⟨rfl, trivial⟩) rfl ?_)
  first | (refine Ch.sk (gdF rfl rfl rfl) ?_) | (refine Ch.pu (by exact gdT rfl rfl) (by exact ⟨rfl, rfl, trivial⟩) (OpS.int (v' := .bool true) rfl (by simp [St.text_length])) (by first | exact trivial | exact ⟨rfl, trivial⟩) rfl ?_) | (refine Ch.pu (by exact gdT rfl rfl) (by exact ⟨rfl, rfl, trivial⟩) (OpS.int rfl (by first | exact wr64 (by omega) | exact rfl)) (by first | exact trivial | exact ⟨rfl, trivial⟩) rfl ?_) | (refine Ch.pu (by exact gdT rfl rfl) (by exact ⟨rfl, rfl, trivial⟩) (OpS.strEql) (by first | exact trivial | exact ⟨rfl, trivial⟩) rfl ?_) | (refine Ch.pu (by exact gdT rfl rfl) (by exact ⟨rfl, rfl, trivial⟩) (OpS.boolEql rfl) (by first | exact trivial | exact ⟨rfl, trivial⟩) rfl ?_) | (refine Ch.pu (by exact gdT rfl rfl) (by exact ⟨rfl, rfl, trivial⟩) (OpS.binR rfl (by intro w; go_simp; with_reducible rfl)) (by first | exact trivial | exact ⟨rfl, trivial⟩) rfl ?_)
  first | (refine Ch.pu gdN (by exact ⟨rfl, rfl, rfl, trivial⟩) (OpS.pickT) (by first | exact trivial | exact ⟨rfl, trivial⟩) rfl ?_) | (refine Ch.pu gdN (by exact ⟨rfl, rfl, rfl, trivial⟩) (OpS.pickF) (by first | exact trivial | exact ⟨rfl, trivial⟩) rfl ?_) | (refine Ch.pu gdN (by exact ⟨rfl, rfl, rfl, trivial⟩) (OpS.pickR) (by first | exact trivial | exact ⟨rfl, trivial⟩) rfl ?_)
  refine Ch.pu gdN (by exact ⟨rfl, trivial⟩) (OpS.move) (by first | exact trivial | exact ⟨rfl, trivial⟩) rfl ?_
  first | (refine Ch.sk (gdF rfl rfl rfl) ?_) | (refine Ch.pu (by exact gdT rfl rfl) (by exact ⟨rfl, trivial⟩) (OpS.move) (by first | exact trivial | exact ⟨rfl, trivial⟩) rfl ?_)
  first | (refine Ch.sk (gdF rfl rfl rfl) ?_) | (refine Ch.pu (by exact gdT rfl rfl) (by exact ⟨rfl, trivial⟩) (OpS.move) (by first | exact trivial | exact ⟨rfl, trivial⟩) rfl ?_)
  first | (refine Ch.sk (gdF rfl rfl rfl) ?_) | (refine Ch.pu (by exact gdT rfl rfl) (by exact ⟨rfl, trivial⟩) (OpS.b2sA (l := fit 32 s) rfl rfl rfl (fit_length 32 s).symm (fit_cells 32 s)) (by first | exact trivial | exact ⟨rfl, trivial⟩) rfl ?_) | (refine Ch.pu (by exact gdT rfl rfl) (by exact ⟨rfl, trivial⟩) (OpS.b2sA (l := fit 64 b) rfl rfl rfl (fit_length 64 b).symm (fit_cells 64 b)) (by first | exact trivial | exact ⟨rfl, trivial⟩) rfl ?_) | (refine Ch.pu (by exact gdT rfl rfl) (by exact ⟨rfl, trivial⟩) (OpS.conv rfl rfl (by first | exact cv_u32_u8 _ | exact cv_u64_u8 _ | exact cv_i64_u8 _ | exact cv_u8_u32 _ | exact cv_u8_u64 _ | exact cv_u32_u64 _ | exact cv_u64_u32 _ | exact cv_u8_u8 _ | exact cv_u32_u32 _ | exact cv_u64_u64 _ | exact wr64 (by omega) | exact cv_u64_nat _ | exact cv_u32_nat _ | exact cv_u8_nat _ | exact rfl)) (by first | exact trivial | exact ⟨rfl, trivial⟩) rfl ?_) | (refine Ch.pu (by exact gdT rfl rfl) (by exact ⟨rfl, trivial⟩) (OpS.b2s rfl rfl rfl (by first | rfl | (simp; done) | omega)) (by first | exact trivial | exact ⟨rfl, trivial⟩) rfl ?_) | (refine Ch.pu (by exact gdT rfl rfl) (by exact ⟨rfl, trivial⟩) (OpS.convR (by intro w; go_simp; with_reducible rfl)) (by first | exact trivial | exact ⟨rfl, trivial⟩) rfl ?_)
  first | (refine Ch.sk (gdF rfl rfl rfl) ?_) | (refine Ch.pu (by exact gdT rfl rfl) (by exact ⟨rfl, trivial⟩) (OpS.move) (by first | exact trivial | exact ⟨rfl, trivial⟩) rfl ?_)
  first | (refine Ch.sk (gdF rfl rfl rfl) ?_) | (refine Ch.pu (by exact gdT rfl rfl) (by exact ⟨rfl, trivial⟩) (OpS.b2sA (l := fit 32 s) rfl rfl rfl (fit_length 32 s).symm (fit_cells 32 s)) (by first | exact trivial | exact ⟨rfl, trivial⟩) rfl ?_) | (refine Ch.pu (by exact gdT rfl rfl) (by exact ⟨rfl, trivial⟩) (OpS.b2sA (l := fit 64 b) rfl rfl rfl (fit_length 64 b).symm (fit_cells 64 b)) (by first | exact trivial | exact ⟨rfl, trivial⟩) rfl ?_) | (refine Ch.pu (by exact gdT rfl rfl) (by exact ⟨rfl, trivial⟩) (OpS.conv rfl rfl (by first | exact cv_u32_u8 _ | exact cv_u64_u8 _ | exact cv_i64_u8 _ | exact cv_u8_u32 _ | exact cv_u8_u64 _ | exact cv_u32_u64 _ | exact cv_u64_u32 _ | exact cv_u8_u8 _ | exact cv_u32_u32 _ | exact cv_u64_u64 _ | exact wr64 (by omega) | exact cv_u64_nat _ | exact cv_u32_nat _ | exact cv_u8_nat _ | exact rfl)) (by first | exact trivial | exact ⟨rfl, trivial⟩) rfl ?_) | (refine Ch.pu (by exact gdT rfl rfl) (by exact ⟨rfl, trivial⟩) (OpS.b2s rfl rfl rfl (by first | rfl | (simp; done) | omega)) (by first | exact trivial | exact ⟨rfl, trivial⟩) rfl ?_) | (refine Ch.pu (by exact gdT rfl rfl) (by exact ⟨rfl, trivial⟩) (OpS.convR (by intro w; go_simp; with_reducible rfl)) (by first | exact trivial | exact ⟨rfl, trivial⟩) rfl ?_)
  first | (refine Ch.sk (gdF rfl rfl rfl) ?_) | (refine Ch.callP (rblock_fc hk (fit 32 s) (fit 64 b) (fit_length _ _) (fit_length _ _)) (by exact gdT rfl rfl) (by repeat (first | exact EvL.nil | (apply EvL.cons; exact rfl))) (by exact (And.intro (by first | exact .rfl _ | exact .untip _ _ _ | exact .nil | exact .func _) (And.intro (by first | exact .rfl _ | exact .untip _ _ _ | exact .nil | exact .func _) trivial))) (by rfl) rfl ?_)
  first | (refine Ch.sk (gdF rfl rfl rfl) ?_) | (refine Ch.pu (by exact gdT rfl rfl) (by exact ⟨rfl, rfl, trivial⟩) (OpS.int (v' := .bool true) rfl (by simp [St.text_length])) (by first | exact trivial | exact ⟨rfl, trivial⟩) rfl ?_) | (refine Ch.pu (by exact gdT rfl rfl) (by exact ⟨rfl, rfl, trivial⟩) (OpS.int rfl (by first | exact wr64 (by omega) | exact rfl)) (by first | exact trivial | exact ⟨rfl, trivial⟩) rfl ?_) | (refine Ch.pu (by exact gdT rfl rfl) (by exact ⟨rfl, rfl, trivial⟩) (OpS.strEql) (by first | exact trivial | exact ⟨rfl, trivial⟩) rfl ?_) | (refine Ch.pu (by exact gdT rfl rfl) (by exact ⟨rfl, rfl, trivial⟩) (OpS.boolEql rfl) (by first | exact trivial | exact ⟨rfl, trivial⟩) rfl ?_) | (refine Ch.pu (by exact gdT rfl rfl) (by exact ⟨rfl, rfl, trivial⟩) (OpS.binR rfl (by intro w; go_simp; with_reducible rfl)) (by first | exact trivial | exact ⟨rfl, trivial⟩) rfl ?_)
  first | (refine Ch.pu gdN (by exact ⟨rfl, rfl, rfl, trivial⟩) (OpS.pickT) (by first | exact trivial | exact ⟨rfl, trivial⟩) rfl ?_) | (refine Ch.pu gdN (by exact ⟨rfl, rfl, rfl, trivial⟩) (OpS.pickF) (by first | exact trivial | exact ⟨rfl, trivial⟩) rfl ?_) | (refine Ch.pu gdN (by exact ⟨rfl, rfl, rfl, trivial⟩) (OpS.pickR) (by first | exact trivial | exact ⟨rfl, trivial⟩) rfl ?_)
  refine Ch.pu gdN (by exact ⟨rfl, trivial⟩) (OpS.assign) (by first | exact trivial | exact ⟨rfl, trivial⟩) rfl ?_
  refine Ch.nil ?_
  exact WP.ret (Ret.one rfl (.of_eq (by simp [AV.ren])) trivial hnA)
end Go.Proofs.YtkhhhdjpkhnmkaaDoor.E
