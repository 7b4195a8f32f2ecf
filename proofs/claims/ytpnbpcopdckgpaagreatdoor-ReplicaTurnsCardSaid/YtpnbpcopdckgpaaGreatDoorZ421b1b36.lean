import Derived.Test.YtpnbpcopdckgpaaGreatDoorZ47c3d55d
import Derived.Test.YtpnbpcopdckgpaaGreatDoorZ6e93ae27
import Derived.Test.YtpnbpcopdckgpaaGreatDoorZfd707a12
import Derived.Test.YtpnbpcopdckgpaaGreatDoorZ77f8e77b
import Derived.Test.YtpnbpcopdckgpaaGreatDoorZa71524db
import Derived.Test.YtpnbpcopdckgpaaGreatDoorZb1546aba
namespace Go.Proofs.YtpnbpcopdckgpaaGreatDoor.E
open Go Go.RowKit V
set_option maxRecDepth 4000
def leavesP (seed : Txt) (m : Nat) : List Txt := (List.range m).map fun i : Nat => pubT seed (i : Int)
theorem leavesP_succ (seed : Txt) (m : Nat) : leavesP seed (m + 1) = leavesP seed m ++ [pubT seed (m : Int)] := by simp [leavesP, List.range_succ]
theorem leavesP_length (seed : Txt) (m : Nat) : (leavesP seed m).length = m := by simp [leavesP]
theorem leavesP_all (seed : Txt) (h : Nat) : leavesP seed (2 ^ h) = leavesT seed h := rfl
abbrev sgC (seed : Txt) (h n : Nat) (L : List Txt) : List AV := [sA seed, .v (.int .i64 (h : Int)), .sl (some 1) L.length (L.map sA), .v (.int .i64 (n : Int))]
abbrev sgH (seed : Txt) (h n : Nat) (L : List Txt) : List (Option AO) := [some (.cells 142 (sgC seed h n L)), some (.tip 9 1 L.length)]
theorem sg_bel (u : Nat → Bool) (hu : u 1 = true) (seed : Txt) (h n : Nat) (L : List Txt) : belH u (sgH seed h n L) := ⟨⟨trivial, trivial, ⟨fun k hk => by cases hk; exact hu, belL_s _ _⟩, trivial, trivial⟩, trivial, trivial⟩
attribute [local irreducible] sum tag input laidN wstep walkT secretT digitsT pubT signT fromT rootN pathN leavesT beS
section
variable {G : List (Nat × Array Value)}
theorem sgNew_fc (hm : ShaIn G) (seed : Txt) (h n : Nat) (hv : seed.length ≤ 140737488355264) (hh : h ≤ 7) (hn : n ≤ 2 ^ h) : FP G 56 [sA seed, .v (.int .i64 (h : Int)), .v (.int .i64 (n : Int))] [] (.tup [.ptr 0 0, .v (.int .i64 0)]) (sgH seed h n (leavesT seed h)) := by
 have h128 := pw7 hh
 have hll := leavesT_length seed h
 refine FC.of_wp [6, 7] Tryz.func56 rfl rfl rfl rfl (by trivial) (by trivial) (Nat.le_of_ble_eq_true rfl) ?_
 intro A hG hnA hAB
 unfold start
 refine WP.rs hG (Ch.asg rfl rfl (Ch.asg rfl rfl (Ch.nil (WP.seq (WP.rs hG (Ch.mv rfl rfl (Ch.p2 rfl rfl (OpS.int (v' := .bool false) rfl (by exact congrArg Value.bool (decide_eq_false (by omega)))) rfl ?_)))))))
 refine Ch.mv rfl rfl (Ch.gm rfl rfl rfl rfl (Ch.g2 rfl rfl rfl rfl (OpS.int (v' := .bool false) rfl (by exact congrArg Value.bool (decide_eq_false (by omega)))) rfl ?_))
 refine Ch.p2 rfl rfl (OpS.pickF) rfl (Ch.mv rfl rfl (Ch.gm rfl rfl rfl rfl (Ch.g2 rfl rfl rfl rfl (OpS.int (v' := .bool false) rfl (by exact congrArg Value.bool (decide_eq_false (by omega)))) rfl ?_)))
 refine Ch.p2 rfl rfl (OpS.pickF) rfl (Ch.mv rfl rfl (Ch.gm rfl rfl rfl rfl (Ch.gm rfl rfl rfl rfl (Ch.g2 rfl rfl rfl rfl (OpS.shl1 (by omega)) rfl ?_))))
 refine Ch.g2 rfl rfl rfl rfl (OpS.int (v' := .bool false) rfl (by exact congrArg Value.bool (decide_eq_false (by omega)))) rfl ?_
 refine Ch.p2 rfl rfl (OpS.pickF) rfl (Ch.nil (WP.cond_false rfl (WP.skip (WP.rs hG (Ch.mv rfl rfl (Ch.mv rfl rfl (Ch.mv rfl rfl (Ch.pup gdN (by repeat (first | exact EvP.nil | (apply EvP.cons; exact rfl))) (OpS.build (cs := [sA seed, .v (.int .i64 (h : Int)), .v (.slice none 0 0), .v (.int .i64 (n : Int))]) rfl rfl rfl rfl rfl (by rfl)) rfl ?_))))))))
 refine Ch.a1 rfl (OpS.box 0 rfl) rfl rfl (Ch.asg rfl rfl (Ch.nil (WP.seq (WP.from (SEnt.nilCell (id := 0) (off := 2) 1 9 1 rfl rfl rfl rfl) (WP.rs hG (Ch.mv rfl rfl (Ch.p2 rfl rfl (OpS.shl1 (by omega)) rfl ?_)))))))
 refine Ch.mv rfl rfl (Ch.nil (WP.block ?_))
 refine WP.loop (fun k σ => ∃ m : Nat, m + k = 2 ^ h ∧ σ = ⟨50, ls [(0, sA seed), (8, .ptr 0 0), (32, .v (.int .i64 ((2 ^ h : Nat) : Int))), (33, .v (.int .i64 (m : Int)))], lh [(0, .cells 142 [sA seed, .v (.int .i64 (h : Int)), .sl (some 1) m ((leavesP seed m).map sA), .v (.int .i64 (n : Int))]), (1, .tip 9 1 m)], blt 2⟩) (2 ^ h) (Ent.of [0, 1] ?_ ?_ ?_ ?_).se ⟨0, by omega, rfl⟩ ?_
 · exact na_of hnA rfl
 · (repeat (first | exact trivial | (refine ⟨⟨(by trivial), _, rfl, .rfl _⟩, ?_⟩)))
 · (repeat (first | exact trivial | (refine ⟨⟨rfl, (by trivial), (by rfl)⟩, ?_⟩)))
 · exact nd_of rfl
 rintro k σ ⟨m, hm', rfl⟩
 have hes := leavesP_succ seed m
 have hpl := leavesP_length seed m
 refine WP.rs hG (Ch.p2 rfl rfl (OpS.int rfl (by exact rfl)) rfl ?_)
 refine Ch.nil (WP.seq ?_)
 refine WP.cond rfl ?_ ?_
 ·
  intro ht
  have ht' := of_decide_eq_true ht
  have hp := pub_fc hm seed (m : Int) hv
  refine WP.skip (WP.seq (WP.block (WP.rs hG (Ch.mv rfl rfl (Ch.asg rfl rfl (Ch.nil (WP.rgD (by kernel_rfl) hG (Ch.mv rfl rfl (Ch.mv rfl rfl ?_)))))))))
  refine Ch.p1 rfl (OpS.nilCheckP) rfl (Ch.p1 rfl (OpS.fieldAddr rfl rfl rfl rfl) rfl (Ch.q1 rfl (OpS.loadP rfl rfl rfl) rfl rfl (Ch.mv rfl rfl (Ch.mv rfl rfl (Ch.callP (hp) gdN (.cons rfl (.cons rfl .nil)) (.c (.rfl _) (.c (.rfl _) .n)) (by rfl) rfl ?_)))))
  refine Ch.pup gdN (by repeat (first | exact EvP.nil | (apply EvP.cons; exact rfl))) (OpS.slice1 (ys := ([pubT seed (m : Int)] : List Txt).map sA) rfl rfl rfl rfl rfl rfl (by rfl) rfl (by rfl)) rfl ?_
  refine Ch.a2 rfl rfl (OpS.append (sz := 1) (bb := 16) 2 rfl rfl rfl rfl rfl (by decide) (SrcA.sl rfl (by simp)) (by (simp; assumption)) (by simp) (by unfold maxLen; omega) rfl (by omega)) rfl rfl rfl ?_
  refine Ch.p1 rfl (OpS.nilCheckP) rfl (Ch.p1 rfl (OpS.fieldAddr rfl rfl rfl rfl) rfl (Ch.ws rfl rfl (OpS.storeP (cs := [sA seed, .v (.int .i64 (h : Int)), .sl (some 1) m ((leavesP seed m).map sA), .v (.int .i64 (n : Int))]) rfl rfl rfl (by simp)) rfl ?_))
  refine Ch.nilD ?_ (by kernel_rfl)
  refine WP.rg hG (Ch.p2 rfl rfl (OpS.inc m (by omega) (by omega)) rfl ?_)
  refine Ch.mv rfl rfl (Ch.nil ?_)
  refine ⟨k - 1, _, by omega, (Ent.of [0, 2] ?_ ?_ ?_ ?_).se, m + 1, by omega, rfl⟩
  · exact na_of hnA rfl
  · (repeat (first | exact trivial | (refine ⟨⟨(by trivial), _, rfl, .rfl _⟩, ?_⟩)))
  · (repeat (first | exact trivial | (refine ⟨⟨rfl, (by first | trivial | (simp; first | done | fail)), (by first | rfl | (simp [hes]; first | done | fail))⟩, ?_⟩)))
  exact nd_of rfl
 intro ht
 have ht' := of_decide_eq_false ht
 obtain rfl : m = 2 ^ h := by omega
 rw [leavesP_all, ← hll]
 refine WP.exit (WP.rs hG (Ch.mv rfl rfl (Ch.asg rfl rfl (Ch.asg rfl rfl (Ch.nil (WP.ret ?_))))))
 refine (Ret.of (rs := [6, 7]) (vs := [.ptr 0 0, .v (.int .i64 0)]) (H' := sgH seed h n (leavesT seed h)) (res := .tup [.ptr 0 0, .v (.int .i64 0)]) [0, 1] ?_ ?_ rfl ?_ (by simp only [List.length_cons, List.length_nil]; decide) ?_).1
 · exact na_of hnA rfl
 · (repeat (first | exact trivial | (refine ⟨⟨(by trivial), _, rfl, .rfl _⟩, ?_⟩)))
 · (repeat (first | exact trivial | refine HFromL.skip ?_ | (refine ⟨⟨(by first | trivial | (simp; first | done | fail)), (by first | rfl | (simp; first | done | fail))⟩, ?_⟩)))
 exact ⟨_, rfl, rfl, by simp [ls, TsOk, List.zip, List.zipWith]⟩
end
end Go.Proofs.YtpnbpcopdckgpaaGreatDoor.E
namespace Go.Proofs.YtpnbpcopdckgpaaGreatDoor.E
open Go Go.RowKit V
set_option maxRecDepth 4000
theorem keyT_form (seed : Txt) (h : Nat) : beS (UInt64.ofNat h) 8 ++ rootN h (leavesT seed h) = keyT seed h := rfl
def sigP (seed : Txt) (h i : Nat) (msg : Txt) (m : Nat) : Txt := beS (UInt64.ofNat i) 8 ++ pieceT (signT seed (i : Int) msg) ++ (((pathN h (leavesT seed h) i).take m).map pieceT).flatten
theorem sigP_0 (seed : Txt) (h i : Nat) (msg : Txt) : sigP seed h i msg 0 = beS (UInt64.ofNat i) 8 ++ beS (UInt64.ofNat (signT seed (i : Int) msg).length) 4 ++ signT seed (i : Int) msg := by
 unfold sigP pieceT
 simp
theorem sigP_succ (seed : Txt) (h i : Nat) (msg : Txt) (m : Nat) (hm : m < (pathN h (leavesT seed h) i).length) : sigP seed h i msg (m + 1) = sigP seed h i msg m ++ beS (UInt64.ofNat (el (pathN h (leavesT seed h) i) m).length) 4 ++ el (pathN h (leavesT seed h) i) m := by
 have hx : el (pathN h (leavesT seed h) i) m = (pathN h (leavesT seed h) i)[m] := by unfold el; rw [List.getElem?_eq_getElem hm]; rfl
 unfold sigP
 rw [hx, List.take_add_one, List.getElem?_eq_getElem hm, Option.toList_some, List.map_append, List.flatten_append, ← List.append_assoc]
 show _ ++ (pieceT _ ++ []) = _
 rw [List.append_nil]
 unfold pieceT
 rw [← List.append_assoc]
theorem sigP_all (seed : Txt) (h i : Nat) (msg : Txt) : sigP seed h i msg h = sigT seed h i msg := by
 unfold sigP sigT
 rw [List.take_of_length_le (by rw [pathN_length]; exact Nat.le_refl _)]
theorem el_mem' {α : Type} [Inhabited α] (l : List α) (m : Nat) (h : m < l.length) : el l m ∈ l := by
 unfold el
 rw [List.getElem?_eq_getElem h]
 exact List.getElem_mem h
theorem sigP_len (seed : Txt) (h i : Nat) (msg : Txt) (hi : i < 2 ^ h) : ∀ m, m ≤ h → (sigP seed h i msg m).length = 172 + 36 * m
 | 0, _ => by rw [sigP_0, List.length_append, List.length_append, beS_length, beS_length, signT_length]
 | m + 1, hm => by
  have hl : m < (pathN h (leavesT seed h) i).length := by rw [pathN_length]; omega
  have h32 := pathN_mem h _ i (leavesT_length seed h) hi (leavesT_32 seed h) _ (el_mem' _ m hl)
  rw [sigP_succ seed h i msg m hl, List.length_append, List.length_append, sigP_len seed h i msg hi m (by omega), beS_length, h32]
  omega
attribute [local irreducible] sum tag input laidN wstep walkT secretT digitsT pubT signT fromT rootN pathN leavesT beS sigP sigT keyT
section
variable {G : List (Nat × Array Value)}
theorem sgSpent_fc (seed : Txt) (h n : Nat) (L : List Txt) : FP G 134 [.ptr 0 0] (sgH seed h n L) (.v (.int .i64 (n : Int))) (sgH seed h n L) := by
 refine FC.of_wp [2] Tryz.func134 rfl rfl rfl rfl ⟨rfl, trivial⟩ (sg_bel _ rfl _ _ _ _) (Nat.le_of_ble_eq_true rfl) ?_
 intro A hG hnA hAB
 unfold start
 refine WP.rs hG (Ch.asg rfl rfl (Ch.nil (WP.rs hG (Ch.mv rfl rfl (Ch.p1 rfl (OpS.nilCheckP) rfl (Ch.p1 rfl (OpS.fieldAddr rfl rfl rfl rfl) rfl (Ch.q1 rfl (OpS.loadP rfl rfl rfl) rfl rfl (Ch.asg rfl rfl (Ch.nil ?_)))))))))
 refine WP.ret ?_
 refine (Ret.of (rs := [2]) (vs := [.v (.int .i64 (n : Int))]) (H' := sgH seed h n L) (res := .v (.int .i64 (n : Int))) [0, 1] ?_ ?_ rfl ?_ (by simp only [List.length_cons, List.length_nil]; decide) ?_).1
 · exact na_of hnA rfl
 · (repeat (first | exact trivial | (refine ⟨⟨(by trivial), _, rfl, .rfl _⟩, ?_⟩)))
 · (repeat (first | exact trivial | refine HFromL.skip ?_ | (refine ⟨⟨(by first | trivial | (simp; first | done | fail)), (by first | rfl | (simp; first | done | fail))⟩, ?_⟩)))
 rfl
theorem sgSign_fc (hm : ShaIn G) (seed : Txt) (h n : Nat) (hh : h ≤ 7) (msg : Txt) (hn : n < 2 ^ h) (hv : seed.length ≤ 140737488355264) (hv2 : msg.length ≤ 140737488355264) :
  FP G 139 [.ptr 0 0, sA msg] (sgH seed h n (leavesT seed h)) (.tup [sA (sigT seed h n msg), .v (.int .i64 0)]) (sgH seed h (n + 1) (leavesT seed h)) := by
 have h128 := pw7 hh
 have hL := leavesT_length seed h
 have hw := wNum_fc (G := G) [] (UInt64.ofNat n) (by decide)
 have hs := sign_fc hm seed (n : Int) msg hv hv2
 have hsl := signT_length seed (n : Int) msg
 have hl8 := beS_length (UInt64.ofNat n) 8
 have hw2 := wText_fc (G := G) (beS (UInt64.ofNat n) 8) (signT seed (n : Int) msg) (by omega) (by omega)
 rw [← sigP_0 seed h n msg] at hw2
 have hpa := path_fc hm (leavesT seed h) (n : Int) (Mid.of32 (leavesT_32 seed h))
 rw [pathT_eq hh hL hn] at hpa
 have hpaL := pathN_length h (leavesT seed h) n
 have h32 := pathN_mem h _ n hL hn (leavesT_32 seed h)
 have hpl2 := sigP_len seed h n msg hn
 obtain ⟨p, hp⟩ : ∃ p, p = pathN h (leavesT seed h) n := ⟨_, rfl⟩
 have hsu := sigP_succ seed h n msg
 rw [← hp] at hpa hpaL h32 hsu
 have hb := wBytes_fc (G := G) (sigP seed h n msg h)
 have hal := sigP_all seed h n msg
 refine FC.of_wp [4, 5] Tryz.func139 rfl rfl rfl rfl ⟨rfl, trivial, trivial⟩ (sg_bel _ rfl _ _ _ _) (Nat.le_of_ble_eq_true rfl) ?_
 intro A hG hnA hAB
 unfold start
 refine WP.rs hG (Ch.asg rfl rfl (Ch.asg rfl rfl (Ch.nil (WP.rs hG (Ch.mv rfl rfl (Ch.p1 rfl (OpS.nilCheckP) rfl (Ch.p1 rfl (OpS.fieldAddr rfl rfl rfl rfl) rfl (Ch.q1 rfl (OpS.loadP rfl rfl rfl) rfl rfl (Ch.asg rfl rfl ?_)))))))))
 refine Ch.nil (WP.seq (WP.rs hG (Ch.mv rfl rfl (Ch.mv rfl rfl (Ch.p1 rfl (OpS.nilCheckP) rfl (Ch.p1 rfl (OpS.fieldAddr rfl rfl rfl rfl) rfl (Ch.q1 rfl (OpS.loadP rfl rfl rfl) rfl rfl (Ch.p1 rfl (OpS.len rfl) rfl (Ch.p2 rfl rfl (OpS.geqF (by omega)) rfl ?_)))))))))
 refine Ch.nil (WP.cond_false rfl (WP.skip (WP.rs hG (Ch.mv rfl rfl (Ch.p1 rfl (OpS.nilCheckP) rfl (Ch.p1 rfl (OpS.fieldAddr rfl rfl rfl rfl) rfl (Ch.q1 rfl (OpS.loadP rfl rfl rfl) rfl rfl (Ch.p2 rfl rfl (OpS.inc n (by omega) (by omega)) rfl ?_))))))))
 refine Ch.p1 rfl (OpS.nilCheckP) rfl (Ch.p1 rfl (OpS.fieldAddr rfl rfl rfl rfl) rfl (Ch.ws rfl rfl (OpS.storeP (cs := sgC seed h n (leavesT seed h)) rfl rfl rfl (by simp)) rfl ?_))
 refine Ch.nil (WP.rs hG ?_)
 refine Ch.cH (newWriter_fc) [] 2 gdN .nil .n rfl (by refine ⟨?_, ?_, ?_, ?_⟩ <;> first | ((conv => lhs; simp only [nrmA, Nat.reduceAdd]); all_goals rfl) | rfl) (by exact trivial) (by exact ⟨rfl, rfl, trivial⟩) rfl ?_
 refine Ch.asg rfl rfl (Ch.nil (WP.rs hG (Ch.mv rfl rfl (Ch.mv rfl rfl (Ch.p1 rfl (OpS.conv rfl rfl (by exact cv_u64_nat _)) rfl ?_)))))
 refine Ch.cH (hw) [2,3] 4 gdN (.cons rfl (.cons rfl .nil)) (.c (.rfl _) (.c (.rfl _) .n)) rfl (by refine ⟨?_, ?_, ?_, ?_⟩ <;> first | ((conv => lhs; simp only [nrmA, Nat.reduceAdd]); all_goals rfl) | rfl) (by exact ⟨rfl, rfl, trivial⟩) (by exact ⟨rfl, trivial⟩) rfl ?_
 refine Ch.nil (WP.rs hG (Ch.mv rfl rfl (Ch.mv rfl rfl (Ch.p1 rfl (OpS.nilCheckP) rfl (Ch.p1 rfl (OpS.fieldAddr rfl rfl rfl rfl) rfl (Ch.q1 rfl (OpS.loadP rfl rfl rfl) rfl rfl (Ch.mv rfl rfl (Ch.mv rfl rfl (Ch.callP (hs) gdN (.cons rfl (.cons rfl (.cons rfl .nil))) (.c (.rfl _) (.c (.rfl _) (.c (.rfl _) .n))) (by rfl) rfl ?_)))))))))
 refine Ch.cH (hw2) [2,4] 5 gdN (.cons rfl (.cons rfl .nil)) (.c (.rfl _) (.c (.rfl _) .n)) rfl (by refine ⟨?_, ?_, ?_, ?_⟩ <;> first | ((conv => lhs; simp only [nrmA, Nat.reduceAdd]); all_goals rfl) | rfl) (by exact ⟨rfl, rfl, trivial⟩) (by exact ⟨rfl, rfl, trivial⟩) rfl ?_
 refine Ch.nil (WP.seq (WP.rs hG (Ch.mv rfl rfl (Ch.p1 rfl (OpS.nilCheckP) rfl (Ch.p1 rfl (OpS.fieldAddr rfl rfl rfl rfl) rfl (Ch.q1 rfl (OpS.loadP rfl rfl rfl) rfl rfl (Ch.mv rfl rfl (Ch.callS (hpa) gdN (.cons rfl (.cons rfl .nil)) (.c (AV.wk.sh (renL_s _ _)) (.c (.rfl _) .n)) (by simp) rfl ?_))))))))
 refine Ch.p1 rfl (OpS.len rfl) rfl (Ch.mv rfl rfl (Ch.nil (WP.block ?_)))
 refine WP.loop (fun k σ => ∃ m : Nat, m + k = h ∧ σ = ⟨59, ls [(0, .ptr 0 0), (7, .ptr 2 0), (47, .sl none p.length (p.map sA)), (48, .v (.int .i64 (h : Int))), (49, .v (.int .i64 (m : Int)))], lh [(0, .cells 142 (sgC seed h (n + 1) (leavesT seed h))), (1, .tip 9 1 (leavesT seed h).length), (2, .cells 115 [.sl (some 3) (sigP seed h n msg m).length ((sigP seed h n msg m).map bA)]), (3, .tip 5 1 (sigP seed h n msg m).length)], blt 4⟩) (h) (Ent.of [0, 1, 2, 6] ?_ ?_ ?_ ?_).se ⟨0, by omega, rfl⟩ ?_
 · exact na_of hnA rfl
 · (repeat (first | exact trivial | (refine ⟨⟨(by first | trivial | (simp; first | done | fail)), _, rfl, (by first | exact .rfl _ | exact .of_eq (by simp [hpaL]; first | done | fail))⟩, ?_⟩)))
 · (repeat (first | exact trivial | (refine ⟨⟨rfl, (by first | trivial | (simp; first | done | fail)), (by first | rfl | (simp [hpaL]; first | done | fail))⟩, ?_⟩)))
 · exact nd_of rfl
 rintro k σ ⟨m, hm', rfl⟩
 refine WP.rs hG (Ch.p2 rfl rfl (OpS.int rfl (by exact rfl)) rfl ?_)
 refine Ch.nil (WP.seq ?_)
 refine WP.cond rfl ?_ ?_
 ·
  intro ht
  have ht' := of_decide_eq_true ht
  have hml := hpl2 m (by omega)
  have hx := h32 _ (el_mem' p m (by omega))
  have hw3 := wText_fc (G := G) (sigP seed h n msg m) (el p m) (by omega) (by omega)
  rw [← hsu m (by omega)] at hw3
  refine WP.skip (WP.seq (WP.block (WP.rs hG (Ch.p2 rfl rfl (OpS.indexM rfl rfl rfl (by with_reducible exact Int.toNat_natCast _) (by omega) (by omega) (by rfl)) rfl ?_))))
  refine Ch.p1 rfl (OpS.loadS rfl rfl) rfl (Ch.asg rfl rfl (Ch.nil (WP.rg hG (Ch.mv rfl rfl (Ch.mv rfl rfl ?_)))))
  refine Ch.cH (hw3) [2,3] 4 gdN (.cons rfl (.cons rfl .nil)) (.c (.rfl _) (.c (.rfl _) .n)) rfl (by refine ⟨?_, ?_, ?_, ?_⟩ <;> first | ((conv => lhs; simp only [nrmA, Nat.reduceAdd]); all_goals rfl) | rfl) (by exact ⟨rfl, rfl, trivial⟩) (by exact ⟨rfl, rfl, trivial⟩) rfl ?_
  refine Ch.nil (WP.rg hG (Ch.p2 rfl rfl (OpS.inc m (by omega) (by omega)) rfl ?_))
  refine Ch.mv rfl rfl (Ch.nil ?_)
  refine ⟨k - 1, _, by omega, (Ent.of [0, 1, 2, 5] ?_ ?_ ?_ ?_).se, m + 1, by omega, rfl⟩
  · exact na_of hnA rfl
  · (repeat (first | exact trivial | (refine ⟨⟨(by first | trivial | (simp; first | done | fail)), _, rfl, (by first | exact .rfl _ | exact .of_eq (by simp; first | done | fail))⟩, ?_⟩)))
  · (repeat (first | exact trivial | (refine ⟨⟨rfl, (by first | trivial | (simp; first | done | fail)), (by first | rfl | (simp; first | done | fail))⟩, ?_⟩)))
  exact nd_of rfl
 intro ht
 have ht' := of_decide_eq_false ht
 obtain rfl : m = h := by omega
 refine WP.exit (WP.rs hG (Ch.mv rfl rfl ?_))
 refine Ch.cH (hb) [2,3] 4 gdN (.cons rfl .nil) (.c (.rfl _) .n) rfl (by refine ⟨?_, ?_, ?_, ?_⟩ <;> first | ((conv => lhs; simp only [nrmA, Nat.reduceAdd]); all_goals rfl) | rfl) (by exact ⟨rfl, rfl, trivial⟩) (by exact trivial) rfl ?_
 refine Ch.asg rfl rfl (Ch.asg rfl rfl (Ch.nil (WP.ret ?_)))
 rw [← hal]
 refine (Ret.of (rs := [4, 5]) (vs := [sA (sigP seed m n msg m), .v (.int .i64 0)]) (H' := sgH seed m (n + 1) (leavesT seed m)) (res := .tup [sA (sigP seed m n msg m), .v (.int .i64 0)]) [0, 1] ?_ ?_ rfl ?_ (by simp only [List.length_cons, List.length_nil]; decide) ?_).1
 · exact na_of hnA rfl
 · (repeat (first | exact trivial | (refine ⟨⟨(by trivial), _, rfl, .rfl _⟩, ?_⟩)))
 · (repeat (first | exact trivial | refine HFromL.skip ?_ | (refine ⟨⟨(by first | trivial | (simp; first | done | fail)), (by first | rfl | (simp; first | done | fail))⟩, ?_⟩)))
 exact ⟨_, rfl, rfl, by simp [ls, TsOk, List.zip, List.zipWith]⟩
end
end Go.Proofs.YtpnbpcopdckgpaaGreatDoor.E
namespace Go.Proofs.YtpnbpcopdckgpaaGreatDoor.E
open Go Go.RowKit V
set_option maxRecDepth 4000
structure Dk where
 l0 : List UInt8
 l1 : List UInt8
 p0 : Option (List UInt8)
 p1 : Option (List UInt8)
 left : Int
 dead : Bool
def pend : Option (List UInt8) → AV
 | none => .v (.pointer none)
 | some s => .sptr [sA s]
@[simp] theorem pend_ren (π : Nat → Nat) (p : Option (List UInt8)) : AV.ren π (pend p) = pend p := by cases p <;> rfl
@[simp] theorem pend_bel (u : Nat → Bool) (p : Option (List UInt8)) : (pend p).bel u := by cases p <;> first | trivial | exact ⟨trivial, trivial⟩
abbrev dkC (d : Dk) : List AV := [sA d.l0, pend d.p0, sA d.l1, pend d.p1, .v (.int .i64 d.left), .v (.bool d.dead)]
abbrev dkH (d : Dk) : List (Option AO) := [some (.cells 105 (dkC d))]
def armL (n : Int) : Int := if 0 > n then 0 else n
def actD (d : Dk) : Dk := if 0 < d.left then { d with left := d.left - 1, dead := (d.left - 1 == 0) } else d
def errS (d : Dk) : Int := if d.dead then 120 else 0
theorem dk_bel (u : Nat → Bool) (d : Dk) : AV.belL u (dkC d) := ⟨trivial, pend_bel _ _, trivial, pend_bel _ _, trivial, trivial, trivial⟩
section
variable {G : List (Nat × Array Value)}
theorem dkState_fc (d : Dk) : FC Tryz.prog G 172 [.ptr 0 0] (dkH d) (.v (.int .i64 (errS d))) (dkH d) := by
 refine FC.of_wp [2] Tryz.func172 rfl rfl rfl rfl ⟨rfl, trivial⟩ ⟨dk_bel _ _, trivial⟩ (Nat.le_of_ble_eq_true rfl) ?_
 intro A hG hnA hAB
 unfold start
 refine WP.rs hG (Ch.asg rfl rfl (Ch.nil (WP.seq (WP.rs hG (Ch.mv rfl rfl (Ch.p1 rfl (OpS.nilCheckP) rfl (Ch.p1 rfl (OpS.fieldAddr rfl rfl rfl rfl) rfl (Ch.q1 rfl (OpS.loadP rfl rfl rfl) rfl rfl (Ch.nil ?_)))))))))
 refine WP.cond rfl ?_ ?_
 ·
  intro ht
  have he : errS d = 120 := if_pos ht
  refine WP.rs hG (Ch.asg rfl rfl (Ch.nil (WP.ret ?_)))
  rw [he]
  refine (Ret.of (rs := [2]) (vs := [.v (.int .i64 120)]) (H' := dkH d) (res := .v (.int .i64 120)) [0] ?_ ?_ rfl ?_ (by simp only [List.length_cons, List.length_nil]; decide) ?_).1
  · exact na_of hnA rfl
  · (repeat (first | exact trivial | (refine ⟨⟨(by trivial), _, rfl, .rfl _⟩, ?_⟩)))
  · (repeat (first | exact trivial | refine HFromL.skip ?_ | (refine ⟨⟨(by (simp; first | done | fail)), (by (simp; first | done | fail))⟩, ?_⟩)))
  rfl
 intro ht
 have he : errS d = 0 := if_neg (by rw [ht]; decide)
 refine WP.skip (WP.rs hG (Ch.asg rfl rfl (Ch.nil (WP.ret ?_))))
 rw [he]
 refine (Ret.of (rs := [2]) (vs := [.v (.int .i64 0)]) (H' := dkH d) (res := .v (.int .i64 0)) [0] ?_ ?_ rfl ?_ (by simp only [List.length_cons, List.length_nil]; decide) ?_).1
 · exact na_of hnA rfl
 · (repeat (first | exact trivial | (refine ⟨⟨(by trivial), _, rfl, .rfl _⟩, ?_⟩)))
 · (repeat (first | exact trivial | refine HFromL.skip ?_ | (refine ⟨⟨(by (simp; first | done | fail)), (by (simp; first | done | fail))⟩, ?_⟩)))
 rfl
theorem dkActs_fc (d : Dk) (hl : 0 ≤ d.left ∧ d.left ≤ 9223372036854775807) : FC Tryz.prog G 171 [.ptr 0 0] (dkH d) (.tup []) (dkH (actD d)) := by
 refine FC.of_wp [] Tryz.func171 rfl rfl rfl rfl ⟨rfl, trivial⟩ ⟨dk_bel _ _, trivial⟩ (Nat.le_of_ble_eq_true rfl) ?_
 intro A hG hnA hAB
 unfold start
 refine WP.rs hG (Ch.mv rfl rfl (Ch.p1 rfl (OpS.nilCheckP) rfl (Ch.p1 rfl (OpS.fieldAddr rfl rfl rfl rfl) rfl (Ch.q1 rfl (OpS.loadP rfl rfl rfl) rfl rfl (Ch.p2 rfl rfl (OpS.int rfl (by exact rfl)) rfl ?_)))))
 refine Ch.nil ?_
 refine WP.cond rfl ?_ ?_
 ·
  intro ht
  have ht' := of_decide_eq_true ht
  have ha : actD d = { d with left := d.left - 1, dead := (d.left - 1 == 0) } := if_pos ht'
  rw [ha]
  refine WP.rs hG (Ch.mv rfl rfl (Ch.p1 rfl (OpS.nilCheckP) rfl (Ch.p1 rfl (OpS.fieldAddr rfl rfl rfl rfl) rfl (Ch.q1 rfl (OpS.loadP rfl rfl rfl) rfl rfl (Ch.p2 rfl rfl (OpS.int rfl (by exact wr64 (by omega))) rfl ?_)))))
  refine Ch.p1 rfl (OpS.nilCheckP) rfl (Ch.p1 rfl (OpS.fieldAddr rfl rfl rfl rfl) rfl (Ch.ws rfl rfl (OpS.storeP (cs := dkC d) rfl rfl rfl (by simp)) rfl ?_))
  refine Ch.nil (WP.rg hG (Ch.mv rfl rfl (Ch.mv rfl rfl (Ch.p1 rfl (OpS.nilCheckP) rfl (Ch.p1 rfl (OpS.fieldAddr rfl rfl rfl rfl) rfl (Ch.q1 rfl (OpS.loadP rfl rfl rfl) rfl rfl (Ch.p2 rfl rfl (OpS.int rfl (by exact rfl)) rfl ?_)))))))
  refine Ch.p1 rfl (OpS.nilCheckP) rfl (Ch.p1 rfl (OpS.fieldAddr rfl rfl rfl rfl) rfl (Ch.ws rfl rfl (OpS.storeP (cs := dkC { d with left := d.left - 1 }) rfl rfl rfl (by simp)) rfl ?_))
  refine Ch.nil ?_
  refine (Ret.of (rs := []) (vs := []) (H' := _) (res := .tup []) [0] ?_ ?_ rfl ?_ (by simp only [List.length_cons, List.length_nil]; decide) ?_).2
  · exact na_of hnA rfl
  · (repeat (first | exact trivial | (refine ⟨⟨(by first | trivial | (simp; first | done | fail) | exact ⟨trivial, hbel _⟩), _, rfl, (by first | exact .rfl _ | exact .nil | exact .of_eq (by simp [pend_ren]; first | done | fail) | exact AV.wk.sh (by simp [pend_ren]; first | done | fail) | exact .untip _ _ _)⟩, ?_⟩)))
  · (repeat (first | exact trivial | refine HFromL.skip ?_ | (refine ⟨⟨(by (simp; first | done | fail)), (by (simp [pend_ren]; first | done | fail))⟩, ?_⟩)))
  exact ⟨_, rfl, rfl, by simp [ls, TsOk, List.zip, List.zipWith]⟩
 intro ht
 have ht' := of_decide_eq_false ht
 have ha : actD d = d := if_neg ht'
 rw [ha]
 refine WP.skip ?_
 refine (Ret.of (rs := []) (vs := []) (H' := _) (res := .tup []) [0] ?_ ?_ rfl ?_ (by simp only [List.length_cons, List.length_nil]; decide) ?_).2
 · exact na_of hnA rfl
 · (repeat (first | exact trivial | (refine ⟨⟨(by first | trivial | (simp; first | done | fail) | exact ⟨trivial, hbel _⟩), _, rfl, (by first | exact .rfl _ | exact .nil | exact .of_eq (by simp [pend_ren]; first | done | fail) | exact AV.wk.sh (by simp [pend_ren]; first | done | fail) | exact .untip _ _ _)⟩, ?_⟩)))
 · (repeat (first | exact trivial | refine HFromL.skip ?_ | (refine ⟨⟨(by (simp; first | done | fail)), (by (simp [pend_ren]; first | done | fail))⟩, ?_⟩)))
 exact ⟨_, rfl, rfl, by simp [ls, TsOk, List.zip, List.zipWith]⟩
theorem now0N_fc (l0 l1 : List UInt8) (p1 : Option (List UInt8)) (lf : Int) (dd : Bool) : FC Tryz.prog G 77 [.ptr 0 0] (dkH ⟨l0, l1, none, p1, lf, dd⟩) (sA l0) (dkH ⟨l0, l1, none, p1, lf, dd⟩) := by
 refine FC.of_wp [2] Tryz.func77 rfl rfl rfl rfl ⟨rfl, trivial⟩ ⟨dk_bel _ _, trivial⟩ (Nat.le_of_ble_eq_true rfl) ?_
 intro A hG hnA hAB
 unfold start
 refine WP.rs hG (Ch.asg rfl rfl (Ch.nil (WP.seq (WP.rs hG (Ch.mv rfl rfl (Ch.p1 rfl (OpS.nilCheckP) rfl (Ch.p1 rfl (OpS.fieldAddr rfl rfl rfl rfl) rfl (Ch.q1 rfl (OpS.loadP rfl rfl rfl) rfl rfl (Ch.p2 rfl rfl (OpS.neNilN rfl) rfl ?_)))))))))
 refine Ch.nil (WP.cond_false rfl (WP.skip (WP.rs hG (Ch.mv rfl rfl (Ch.p1 rfl (OpS.nilCheckP) rfl (Ch.p1 rfl (OpS.fieldAddr rfl rfl rfl rfl) rfl (Ch.q1 rfl (OpS.loadP rfl rfl rfl) rfl rfl (Ch.asg rfl rfl (Ch.nil ?_)))))))))
 refine WP.ret ?_
 refine (Ret.of (rs := [2]) (vs := [sA l0]) (H' := dkH ⟨l0, l1, none, p1, lf, dd⟩) (res := sA l0) [0] ?_ ?_ rfl ?_ (by simp only [List.length_cons, List.length_nil]; decide) ?_).1
 · exact na_of hnA rfl
 · (repeat (first | exact trivial | (refine ⟨⟨(by trivial), _, rfl, .rfl _⟩, ?_⟩)))
 · (repeat (first | exact trivial | refine HFromL.skip ?_ | (refine ⟨⟨(by (simp; first | done | fail)), (by (simp [pend_ren]; first | done | fail))⟩, ?_⟩)))
 rfl
theorem now0S_fc (l0 l1 : List UInt8) (p1 : Option (List UInt8)) (lf : Int) (dd : Bool) (s : List UInt8) : FC Tryz.prog G 77 [.ptr 0 0] (dkH ⟨l0, l1, (some s), p1, lf, dd⟩) (sA s) (dkH ⟨l0, l1, (some s), p1, lf, dd⟩) := by
 refine FC.of_wp [2] Tryz.func77 rfl rfl rfl rfl ⟨rfl, trivial⟩ ⟨dk_bel _ _, trivial⟩ (Nat.le_of_ble_eq_true rfl) ?_
 intro A hG hnA hAB
 unfold start
 refine WP.rs hG (Ch.asg rfl rfl (Ch.nil (WP.seq (WP.rs hG (Ch.mv rfl rfl (Ch.p1 rfl (OpS.nilCheckP) rfl (Ch.p1 rfl (OpS.fieldAddr rfl rfl rfl rfl) rfl (Ch.q1 rfl (OpS.loadP rfl rfl rfl) rfl rfl (Ch.p2 rfl rfl (OpS.neNil (.s _) rfl) rfl ?_)))))))))
 refine Ch.nil (WP.cond_true rfl (WP.rs hG (Ch.mv rfl rfl (Ch.p1 rfl (OpS.nilCheckP) rfl (Ch.p1 rfl (OpS.fieldAddr rfl rfl rfl rfl) rfl (Ch.q1 rfl (OpS.loadP rfl rfl rfl) rfl rfl (Ch.p1 rfl (OpS.nilCheckS) rfl (Ch.p1 rfl (OpS.loadS rfl rfl) rfl (Ch.asg rfl rfl ?_)))))))))
 refine Ch.nil (WP.ret ?_)
 refine (Ret.of (rs := [2]) (vs := [sA s]) (H' := dkH ⟨l0, l1, (some s), p1, lf, dd⟩) (res := sA s) [0] ?_ ?_ rfl ?_ (by simp only [List.length_cons, List.length_nil]; decide) ?_).1
 · exact na_of hnA rfl
 · (repeat (first | exact trivial | (refine ⟨⟨(by trivial), _, rfl, .rfl _⟩, ?_⟩)))
 · (repeat (first | exact trivial | refine HFromL.skip ?_ | (refine ⟨⟨(by (simp; first | done | fail)), (by (simp [pend_ren]; first | done | fail))⟩, ?_⟩)))
 rfl
theorem now1N_fc (l0 l1 : List UInt8) (p0 : Option (List UInt8)) (lf : Int) (dd : Bool) : FC Tryz.prog G 77 [.ptr 0 2] (dkH ⟨l0, l1, p0, none, lf, dd⟩) (sA l1) (dkH ⟨l0, l1, p0, none, lf, dd⟩) := by
 refine FC.of_wp [2] Tryz.func77 rfl rfl rfl rfl ⟨rfl, trivial⟩ ⟨dk_bel _ _, trivial⟩ (Nat.le_of_ble_eq_true rfl) ?_
 intro A hG hnA hAB
 unfold start
 refine WP.rs hG (Ch.asg rfl rfl (Ch.nil (WP.seq (WP.rs hG (Ch.mv rfl rfl (Ch.p1 rfl (OpS.nilCheckP) rfl (Ch.p1 rfl (OpS.fieldAddr rfl rfl rfl rfl) rfl (Ch.q1 rfl (OpS.loadP rfl rfl rfl) rfl rfl (Ch.p2 rfl rfl (OpS.neNilN rfl) rfl ?_)))))))))
 refine Ch.nil (WP.cond_false rfl (WP.skip (WP.rs hG (Ch.mv rfl rfl (Ch.p1 rfl (OpS.nilCheckP) rfl (Ch.p1 rfl (OpS.fieldAddr rfl rfl rfl rfl) rfl (Ch.q1 rfl (OpS.loadP rfl rfl rfl) rfl rfl (Ch.asg rfl rfl (Ch.nil ?_)))))))))
 refine WP.ret ?_
 refine (Ret.of (rs := [2]) (vs := [sA l1]) (H' := dkH ⟨l0, l1, p0, none, lf, dd⟩) (res := sA l1) [0] ?_ ?_ rfl ?_ (by simp only [List.length_cons, List.length_nil]; decide) ?_).1
 · exact na_of hnA rfl
 · (repeat (first | exact trivial | (refine ⟨⟨(by trivial), _, rfl, .rfl _⟩, ?_⟩)))
 · (repeat (first | exact trivial | refine HFromL.skip ?_ | (refine ⟨⟨(by (simp; first | done | fail)), (by (simp [pend_ren]; first | done | fail))⟩, ?_⟩)))
 rfl
theorem now1S_fc (l0 l1 : List UInt8) (p0 : Option (List UInt8)) (lf : Int) (dd : Bool) (s : List UInt8) : FC Tryz.prog G 77 [.ptr 0 2] (dkH ⟨l0, l1, p0, (some s), lf, dd⟩) (sA s) (dkH ⟨l0, l1, p0, (some s), lf, dd⟩) := by
 refine FC.of_wp [2] Tryz.func77 rfl rfl rfl rfl ⟨rfl, trivial⟩ ⟨dk_bel _ _, trivial⟩ (Nat.le_of_ble_eq_true rfl) ?_
 intro A hG hnA hAB
 unfold start
 refine WP.rs hG (Ch.asg rfl rfl (Ch.nil (WP.seq (WP.rs hG (Ch.mv rfl rfl (Ch.p1 rfl (OpS.nilCheckP) rfl (Ch.p1 rfl (OpS.fieldAddr rfl rfl rfl rfl) rfl (Ch.q1 rfl (OpS.loadP rfl rfl rfl) rfl rfl (Ch.p2 rfl rfl (OpS.neNil (.s _) rfl) rfl ?_)))))))))
 refine Ch.nil (WP.cond_true rfl (WP.rs hG (Ch.mv rfl rfl (Ch.p1 rfl (OpS.nilCheckP) rfl (Ch.p1 rfl (OpS.fieldAddr rfl rfl rfl rfl) rfl (Ch.q1 rfl (OpS.loadP rfl rfl rfl) rfl rfl (Ch.p1 rfl (OpS.nilCheckS) rfl (Ch.p1 rfl (OpS.loadS rfl rfl) rfl (Ch.asg rfl rfl ?_)))))))))
 refine Ch.nil (WP.ret ?_)
 refine (Ret.of (rs := [2]) (vs := [sA s]) (H' := dkH ⟨l0, l1, p0, (some s), lf, dd⟩) (res := sA s) [0] ?_ ?_ rfl ?_ (by simp only [List.length_cons, List.length_nil]; decide) ?_).1
 · exact na_of hnA rfl
 · (repeat (first | exact trivial | (refine ⟨⟨(by trivial), _, rfl, .rfl _⟩, ?_⟩)))
 · (repeat (first | exact trivial | refine HFromL.skip ?_ | (refine ⟨⟨(by (simp; first | done | fail)), (by (simp [pend_ren]; first | done | fail))⟩, ?_⟩)))
 rfl
theorem stays0N_fc (l0 l1 : List UInt8) (p1 : Option (List UInt8)) (lf : Int) (dd : Bool) (n : Int) : FC Tryz.prog G 66 [.ptr 0 0, .v (.int .i64 n)] (dkH ⟨l0, l1, none, p1, lf, dd⟩) (.tup []) (dkH ⟨l0, l1, none, p1, lf, dd⟩) := by
 refine FC.of_wp [] Tryz.func66 rfl rfl rfl rfl ⟨rfl, trivial, trivial⟩ ⟨dk_bel _ _, trivial⟩ (Nat.le_of_ble_eq_true rfl) ?_
 intro A hG hnA hAB
 unfold start
 refine WP.rs hG (Ch.mv rfl rfl (Ch.p1 rfl (OpS.nilCheckP) rfl (Ch.p1 rfl (OpS.fieldAddr rfl rfl rfl rfl) rfl (Ch.q1 rfl (OpS.loadP rfl rfl rfl) rfl rfl (Ch.p2 rfl rfl (OpS.neNilN rfl) rfl (Ch.nil (WP.cond_false rfl (WP.skip ?_))))))))
 refine (Ret.of (rs := []) (vs := []) (H' := dkH ⟨l0, l1, none, p1, lf, dd⟩) (res := .tup []) [0] ?_ ?_ rfl ?_ (by simp only [List.length_cons, List.length_nil]; decide) ?_).2
 · exact na_of hnA rfl
 · (repeat (first | exact trivial | (refine ⟨⟨(by first | trivial | (simp; first | done | fail) | exact ⟨trivial, hbel _⟩), _, rfl, (by first | exact .rfl _ | exact .nil | exact .of_eq (by simp [pend_ren]; first | done | fail) | exact AV.wk.sh (by simp [pend_ren]; first | done | fail) | exact .untip _ _ _)⟩, ?_⟩)))
 · (repeat (first | exact trivial | refine HFromL.skip ?_ | (refine ⟨⟨(by (simp; first | done | fail)), (by (simp [pend_ren]; first | done | fail))⟩, ?_⟩)))
 exact ⟨_, rfl, rfl, by simp [ls, TsOk, List.zip, List.zipWith]⟩
theorem stays0S_fc (l0 l1 : List UInt8) (p1 : Option (List UInt8)) (lf : Int) (dd : Bool) (s : List UInt8) (n : Nat) (h1 : n ≤ s.length) (h2 : n ≤ l0.length) (h3 : l0.length ≤ 1000000) (h4 : s.length ≤ 1000000) : FC Tryz.prog G 66 [.ptr 0 0, .v (.int .i64 (n : Int))] (dkH ⟨l0, l1, some s, p1, lf, dd⟩) (.tup []) (dkH ⟨s.take n ++ l0.drop n, l1, none, p1, lf, dd⟩) := by
 have e1 : (s.take n).length = n := by rw [List.length_take]; omega
 have e2 : (l0.drop n).length ≤ 1000000 := by rw [List.length_drop]; omega
 refine FC.of_wp [] Tryz.func66 rfl rfl rfl rfl ⟨rfl, trivial, trivial⟩ ⟨dk_bel _ _, trivial⟩ (Nat.le_of_ble_eq_true rfl) ?_
 intro A hG hnA hAB
 unfold start
 refine WP.rs hG (Ch.mv rfl rfl (Ch.p1 rfl (OpS.nilCheckP) rfl (Ch.p1 rfl (OpS.fieldAddr rfl rfl rfl rfl) rfl (Ch.q1 rfl (OpS.loadP rfl rfl rfl) rfl rfl (Ch.p2 rfl rfl (OpS.neNil (.s _) rfl) rfl (Ch.nil (WP.cond_true rfl (WP.rsD (by kernel_rfl) hG (Ch.mv rfl rfl ?_)))))))))
 refine Ch.mv rfl rfl (Ch.p1 rfl (OpS.nilCheckP) rfl (Ch.p1 rfl (OpS.fieldAddr rfl rfl rfl rfl) rfl (Ch.q1 rfl (OpS.loadP rfl rfl rfl) rfl rfl (Ch.p1 rfl (OpS.nilCheckS) rfl (Ch.p1 rfl (OpS.loadS rfl rfl) rfl (Ch.mv rfl rfl (Ch.p2 rfl rfl (OpS.sliceSh rfl (by with_reducible exact Int.toNat_natCast _) (by omega) (by omega)) rfl ?_)))))))
 refine Ch.mv rfl rfl (Ch.p1 rfl (OpS.nilCheckP) rfl (Ch.p1 rfl (OpS.fieldAddr rfl rfl rfl rfl) rfl (Ch.q1 rfl (OpS.loadP rfl rfl rfl) rfl rfl (Ch.mv rfl rfl (Ch.p2 rfl rfl (OpS.sliceSl (l := l0) rfl (by with_reducible exact Int.toNat_natCast _) (by omega) (by omega)) rfl ?_)))))
 refine Ch.p2 rfl rfl (OpS.strAdd (a := s.take n) (b := l0.drop n) (by omega)) rfl ?_
 refine Ch.p1 rfl (OpS.nilCheckP) rfl (Ch.p1 rfl (OpS.fieldAddr rfl rfl rfl rfl) rfl (Ch.ws rfl rfl (OpS.storeP (cs := dkC ⟨l0, l1, some s, p1, lf, dd⟩) rfl rfl rfl (by simp)) rfl ?_))
 refine Ch.nilD ?_ (by kernel_rfl)
 refine WP.rg hG (Ch.mv rfl rfl (Ch.p1 rfl (OpS.nilCheckP) rfl (Ch.p1 rfl (OpS.fieldAddr rfl rfl rfl rfl) rfl (Ch.ws rfl rfl (OpS.storeP (cs := dkC ⟨s.take n ++ l0.drop n, l1, some s, p1, lf, dd⟩) rfl rfl rfl (by simp)) rfl ?_))))
 refine Ch.nil ?_
 refine (Ret.of (rs := []) (vs := []) (H' := dkH ⟨s.take n ++ l0.drop n, l1, none, p1, lf, dd⟩) (res := .tup []) [0] ?_ ?_ rfl ?_ (by simp only [List.length_cons, List.length_nil]; decide) ?_).2
 · exact na_of hnA rfl
 · (repeat (first | exact trivial | (refine ⟨⟨(by first | trivial | (simp; first | done | fail) | exact ⟨trivial, hbel _⟩), _, rfl, (by first | exact .rfl _ | exact .nil | exact .of_eq (by simp [pend_ren]; first | done | fail) | exact AV.wk.sh (by simp [pend_ren]; first | done | fail) | exact .untip _ _ _)⟩, ?_⟩)))
 · (repeat (first | exact trivial | refine HFromL.skip ?_ | (refine ⟨⟨(by (simp; first | done | fail)), (by (conv => rhs; simp only [AO.ren, AV.ren, AV.renL, Option.map_some, pend_ren]) <;> rfl)⟩, ?_⟩)))
 exact ⟨_, rfl, rfl, by simp [ls, TsOk, List.zip, List.zipWith]⟩
theorem stays1N_fc (l0 l1 : List UInt8) (p0 : Option (List UInt8)) (lf : Int) (dd : Bool) (n : Int) : FC Tryz.prog G 66 [.ptr 0 2, .v (.int .i64 n)] (dkH ⟨l0, l1, p0, none, lf, dd⟩) (.tup []) (dkH ⟨l0, l1, p0, none, lf, dd⟩) := by
 refine FC.of_wp [] Tryz.func66 rfl rfl rfl rfl ⟨rfl, trivial, trivial⟩ ⟨dk_bel _ _, trivial⟩ (Nat.le_of_ble_eq_true rfl) ?_
 intro A hG hnA hAB
 unfold start
 refine WP.rs hG (Ch.mv rfl rfl (Ch.p1 rfl (OpS.nilCheckP) rfl (Ch.p1 rfl (OpS.fieldAddr rfl rfl rfl rfl) rfl (Ch.q1 rfl (OpS.loadP rfl rfl rfl) rfl rfl (Ch.p2 rfl rfl (OpS.neNilN rfl) rfl (Ch.nil (WP.cond_false rfl (WP.skip ?_))))))))
 refine (Ret.of (rs := []) (vs := []) (H' := dkH ⟨l0, l1, p0, none, lf, dd⟩) (res := .tup []) [0] ?_ ?_ rfl ?_ (by simp only [List.length_cons, List.length_nil]; decide) ?_).2
 · exact na_of hnA rfl
 · (repeat (first | exact trivial | (refine ⟨⟨(by first | trivial | (simp; first | done | fail) | exact ⟨trivial, hbel _⟩), _, rfl, (by first | exact .rfl _ | exact .nil | exact .of_eq (by simp [pend_ren]; first | done | fail) | exact AV.wk.sh (by simp [pend_ren]; first | done | fail) | exact .untip _ _ _)⟩, ?_⟩)))
 · (repeat (first | exact trivial | refine HFromL.skip ?_ | (refine ⟨⟨(by (simp; first | done | fail)), (by (simp [pend_ren]; first | done | fail))⟩, ?_⟩)))
 exact ⟨_, rfl, rfl, by simp [ls, TsOk, List.zip, List.zipWith]⟩
theorem stays1S_fc (l0 l1 : List UInt8) (p0 : Option (List UInt8)) (lf : Int) (dd : Bool) (s : List UInt8) (n : Nat) (h1 : n ≤ s.length) (h2 : n ≤ l1.length) (h3 : l1.length ≤ 1000000) (h4 : s.length ≤ 1000000) : FC Tryz.prog G 66 [.ptr 0 2, .v (.int .i64 (n : Int))] (dkH ⟨l0, l1, p0, some s, lf, dd⟩) (.tup []) (dkH ⟨l0, s.take n ++ l1.drop n, p0, none, lf, dd⟩) := by
 have e1 : (s.take n).length = n := by rw [List.length_take]; omega
 have e2 : (l1.drop n).length ≤ 1000000 := by rw [List.length_drop]; omega
 refine FC.of_wp [] Tryz.func66 rfl rfl rfl rfl ⟨rfl, trivial, trivial⟩ ⟨dk_bel _ _, trivial⟩ (Nat.le_of_ble_eq_true rfl) ?_
 intro A hG hnA hAB
 unfold start
 refine WP.rs hG (Ch.mv rfl rfl (Ch.p1 rfl (OpS.nilCheckP) rfl (Ch.p1 rfl (OpS.fieldAddr rfl rfl rfl rfl) rfl (Ch.q1 rfl (OpS.loadP rfl rfl rfl) rfl rfl (Ch.p2 rfl rfl (OpS.neNil (.s _) rfl) rfl (Ch.nil (WP.cond_true rfl (WP.rsD (by kernel_rfl) hG (Ch.mv rfl rfl ?_)))))))))
 refine Ch.mv rfl rfl (Ch.p1 rfl (OpS.nilCheckP) rfl (Ch.p1 rfl (OpS.fieldAddr rfl rfl rfl rfl) rfl (Ch.q1 rfl (OpS.loadP rfl rfl rfl) rfl rfl (Ch.p1 rfl (OpS.nilCheckS) rfl (Ch.p1 rfl (OpS.loadS rfl rfl) rfl (Ch.mv rfl rfl (Ch.p2 rfl rfl (OpS.sliceSh rfl (by with_reducible exact Int.toNat_natCast _) (by omega) (by omega)) rfl ?_)))))))
 refine Ch.mv rfl rfl (Ch.p1 rfl (OpS.nilCheckP) rfl (Ch.p1 rfl (OpS.fieldAddr rfl rfl rfl rfl) rfl (Ch.q1 rfl (OpS.loadP rfl rfl rfl) rfl rfl (Ch.mv rfl rfl (Ch.p2 rfl rfl (OpS.sliceSl (l := l1) rfl (by with_reducible exact Int.toNat_natCast _) (by omega) (by omega)) rfl ?_)))))
 refine Ch.p2 rfl rfl (OpS.strAdd (a := s.take n) (b := l1.drop n) (by omega)) rfl ?_
 refine Ch.p1 rfl (OpS.nilCheckP) rfl (Ch.p1 rfl (OpS.fieldAddr rfl rfl rfl rfl) rfl (Ch.ws rfl rfl (OpS.storeP (cs := dkC ⟨l0, l1, p0, some s, lf, dd⟩) rfl rfl rfl (by simp)) rfl ?_))
 refine Ch.nilD ?_ (by kernel_rfl)
 refine WP.rg hG (Ch.mv rfl rfl (Ch.p1 rfl (OpS.nilCheckP) rfl (Ch.p1 rfl (OpS.fieldAddr rfl rfl rfl rfl) rfl (Ch.ws rfl rfl (OpS.storeP (cs := dkC ⟨l0, s.take n ++ l1.drop n, p0, some s, lf, dd⟩) rfl rfl rfl (by simp)) rfl ?_))))
 refine Ch.nil ?_
 refine (Ret.of (rs := []) (vs := []) (H' := dkH ⟨l0, s.take n ++ l1.drop n, p0, none, lf, dd⟩) (res := .tup []) [0] ?_ ?_ rfl ?_ (by simp only [List.length_cons, List.length_nil]; decide) ?_).2
 · exact na_of hnA rfl
 · (repeat (first | exact trivial | (refine ⟨⟨(by first | trivial | (simp; first | done | fail) | exact ⟨trivial, hbel _⟩), _, rfl, (by first | exact .rfl _ | exact .nil | exact .of_eq (by simp [pend_ren]; first | done | fail) | exact AV.wk.sh (by simp [pend_ren]; first | done | fail) | exact .untip _ _ _)⟩, ?_⟩)))
 · (repeat (first | exact trivial | refine HFromL.skip ?_ | (refine ⟨⟨(by (simp; first | done | fail)), (by (conv => rhs; simp only [AO.ren, AV.ren, AV.renL, Option.map_some, pend_ren]) <;> rfl)⟩, ?_⟩)))
 exact ⟨_, rfl, rfl, by simp [ls, TsOk, List.zip, List.zipWith]⟩
end
end Go.Proofs.YtpnbpcopdckgpaaGreatDoor.E
section
namespace Go.Proofs.YtpnbpcopdckgpaaGreatDoor.E
open Go Go.RowKit Go.Proofs.YtpnbpcopdckgpaaGreatDoor.V
set_option maxRecDepth 4000

section
variable {G : List (Nat × Array Value)}
theorem at0_fc (d : Dk) : FC Tryz.prog G 170 [.ptr 0 0, .v (.int .i64 0)] (dkH d) (.ptr 0 0) (dkH d) := by
 refine FC.of_wp [4] Tryz.func170 rfl rfl rfl rfl ⟨rfl, trivial, trivial⟩ ⟨dk_bel _ _, trivial⟩ (Nat.le_of_ble_eq_true rfl) ?_
 intro A hG hnA hAB
 unfold start
 refine WP.rs hG (Ch.asg rfl rfl (Ch.nil (WP.seq (WP.rs hG (Ch.mv rfl rfl (Ch.p2 rfl rfl (OpS.int (op := .lss) (v' := .bool false) rfl rfl) rfl (Ch.mv rfl rfl (Ch.gm rfl rfl rfl rfl (Ch.g2 rfl rfl rfl rfl (OpS.int (op := .geq) (v' := .bool false) rfl rfl) rfl ?_)))))))))
 refine Ch.p2 rfl rfl (OpS.pickF) rfl (Ch.nil (WP.cond_false rfl (WP.skip (WP.rs hG (Ch.mv rfl rfl (Ch.mv rfl rfl (Ch.p1 rfl (OpS.nilCheckP) rfl (Ch.p1 rfl (OpS.fieldAddr rfl rfl rfl rfl) rfl (Ch.p2 rfl rfl (OpS.indexAddrP rfl rfl rfl (by omega) (by omega)) rfl ?_)))))))))
 refine Ch.asg rfl rfl (Ch.nil (WP.ret ?_))
 refine (Ret.of (rs := [4]) (vs := [.ptr 0 0]) (H' := dkH d) (res := .ptr 0 0) [0] ?_ ?_ rfl ?_ (by simp only [List.length_cons, List.length_nil]; decide) ?_).1
 · exact na_of hnA rfl
 · (repeat (first | exact trivial | (refine ⟨⟨(by trivial), _, rfl, .rfl _⟩, ?_⟩)))
 · (repeat (first | exact trivial | refine HFromL.skip ?_ | (refine ⟨⟨(by (simp; first | done | fail)), (by (simp [pend_ren]; first | done | fail))⟩, ?_⟩)))
 rfl
theorem at1_fc (d : Dk) : FC Tryz.prog G 170 [.ptr 0 0, .v (.int .i64 1)] (dkH d) (.ptr 0 2) (dkH d) := by
 refine FC.of_wp [4] Tryz.func170 rfl rfl rfl rfl ⟨rfl, trivial, trivial⟩ ⟨dk_bel _ _, trivial⟩ (Nat.le_of_ble_eq_true rfl) ?_
 intro A hG hnA hAB
 unfold start
 refine WP.rs hG (Ch.asg rfl rfl (Ch.nil (WP.seq (WP.rs hG (Ch.mv rfl rfl (Ch.p2 rfl rfl (OpS.int (op := .lss) (v' := .bool false) rfl rfl) rfl (Ch.mv rfl rfl (Ch.gm rfl rfl rfl rfl (Ch.g2 rfl rfl rfl rfl (OpS.int (op := .geq) (v' := .bool false) rfl rfl) rfl ?_)))))))))
 refine Ch.p2 rfl rfl (OpS.pickF) rfl (Ch.nil (WP.cond_false rfl (WP.skip (WP.rs hG (Ch.mv rfl rfl (Ch.mv rfl rfl (Ch.p1 rfl (OpS.nilCheckP) rfl (Ch.p1 rfl (OpS.fieldAddr rfl rfl rfl rfl) rfl (Ch.p2 rfl rfl (OpS.indexAddrP rfl rfl rfl (by omega) (by omega)) rfl ?_)))))))))
 refine Ch.asg rfl rfl (Ch.nil (WP.ret ?_))
 refine (Ret.of (rs := [4]) (vs := [.ptr 0 2]) (H' := dkH d) (res := .ptr 0 2) [0] ?_ ?_ rfl ?_ (by simp only [List.length_cons, List.length_nil]; decide) ?_).1
 · exact na_of hnA rfl
 · (repeat (first | exact trivial | (refine ⟨⟨(by trivial), _, rfl, .rfl _⟩, ?_⟩)))
 · (repeat (first | exact trivial | refine HFromL.skip ?_ | (refine ⟨⟨(by (simp; first | done | fail)), (by (simp [pend_ren]; first | done | fail))⟩, ?_⟩)))
 rfl
def nw0 (d : Dk) : List UInt8 := match d.p0 with | none => d.l0 | some s => s
def nw1 (d : Dk) : List UInt8 := match d.p1 with | none => d.l1 | some s => s
theorem now0_fc (d : Dk) : FC Tryz.prog G 77 [.ptr 0 0] (dkH d) (sA (nw0 d)) (dkH d) := by
 obtain ⟨l0, l1, p0, p1, lf, dd⟩ := d
 cases p0 with
 | none => exact now0N_fc l0 l1 p1 lf dd
 | some s => exact now0S_fc l0 l1 p1 lf dd s
theorem now1_fc (d : Dk) : FC Tryz.prog G 77 [.ptr 0 2] (dkH d) (sA (nw1 d)) (dkH d) := by
 obtain ⟨l0, l1, p0, p1, lf, dd⟩ := d
 cases p1 with
 | none => exact now1N_fc l0 l1 p0 lf dd
 | some s => exact now1S_fc l0 l1 p0 lf dd s
end
end Go.Proofs.YtpnbpcopdckgpaaGreatDoor.E
end
section
namespace Go.Proofs.YtpnbpcopdckgpaaGreatDoor.E
open Go Go.RowKit Go.Proofs.YtpnbpcopdckgpaaGreatDoor.V
set_option maxRecDepth 4000

section
variable {G : List (Nat × Array Value)}
theorem write0_fc (d : Dk) (s : List UInt8) (hs' : s.length = 256) (hl : 0 ≤ d.left ∧ d.left ≤ 9223372036854775807) : FC Tryz.prog G 160 [.ptr 0 0, .v (.int .i64 0), sA s] (dkH d)
  (.v (.int .i64 (if d.dead then 120 else errS (actD { d with p0 := some s })))) (dkH (if d.dead then d else actD { d with p0 := some s })) := by
 have ha := dkActs_fc (G := G) { d with p0 := some s } hl
 have hst := dkState_fc (G := G) (actD { d with p0 := some s })
 refine FC.of_wp [6] Tryz.func160 rfl rfl rfl rfl ⟨rfl, trivial, trivial, trivial⟩ ⟨dk_bel _ _, trivial⟩ (Nat.le_of_ble_eq_true rfl) ?_
 intro A hG hnA hAB
 unfold start
 refine WP.rs hG (Ch.p1 rfl (OpS.boxS) rfl (Ch.asg rfl rfl (Ch.nil (WP.rs hG (Ch.mv rfl rfl (Ch.mv rfl rfl ?_))))))
 refine Ch.cH (at0_fc d) [0] 1 gdN (.cons rfl (.cons rfl .nil)) (.c (.rfl _) (.c (.rfl _) .n)) rfl (by refine ⟨?_, ?_, ?_, ?_⟩ <;> first | ((conv => lhs; simp only [nrmA, Nat.reduceAdd, pend_ren]); all_goals rfl) | rfl) (by exact ⟨rfl, trivial⟩) (by exact trivial) rfl ?_
 refine Ch.asg rfl rfl (Ch.nil (WP.seq (WP.block (WP.rs hG (Ch.mv rfl rfl (Ch.p2 rfl rfl (OpS.eqNil (.p _ _) rfl) rfl (Ch.mv rfl rfl (Ch.g1 rfl rfl rfl (OpS.loadS rfl rfl) rfl (Ch.g1 rfl rfl rfl (OpS.lenS rfl) rfl ?_)))))))))
 refine Ch.g2 rfl rfl rfl rfl (OpS.int (v' := .bool false) rfl (by rw [hs']; rfl)) rfl ?_
 refine Ch.p2 rfl rfl (OpS.pickF) rfl (Ch.asg rfl rfl (Ch.nil (WP.cond_false rfl (WP.rs hG (Ch.mv rfl rfl (Ch.p1 rfl (OpS.nilCheckP) rfl (Ch.p1 rfl (OpS.fieldAddr rfl rfl rfl rfl) rfl (Ch.q1 rfl (OpS.loadP rfl rfl rfl) rfl rfl (Ch.asg rfl rfl ?_)))))))))
 refine Ch.nil ?_
 refine WP.cond rfl ?_ ?_
 ·
  intro ht
  rw [if_pos ht, if_pos ht]
  refine WP.rs hG (Ch.asg rfl rfl (Ch.nil (WP.ret ?_)))
  refine (Ret.of (rs := [6]) (vs := [.v (.int .i64 120)]) (H' := dkH d) (res := .v (.int .i64 120)) [0] ?_ ?_ rfl ?_ (by simp only [List.length_cons, List.length_nil]; decide) ?_).1
  · exact na_of hnA rfl
  · (repeat (first | exact trivial | (refine ⟨⟨(by trivial), _, rfl, .rfl _⟩, ?_⟩)))
  · (repeat (first | exact trivial | refine HFromL.skip ?_ | (refine ⟨⟨(by (simp; first | done | fail)), (by (simp [pend_ren]; first | done | fail))⟩, ?_⟩)))
  rfl
 intro ht
 rw [if_neg (by rw [ht]; decide), if_neg (by rw [ht]; decide)]
 refine WP.skip (WP.rs hG (Ch.mv rfl rfl (Ch.p1 rfl (OpS.nilCheckP) rfl (Ch.p1 rfl (OpS.fieldAddr rfl rfl rfl rfl) rfl (Ch.ws rfl rfl (OpS.storeP (cs := dkC d) rfl rfl rfl (by simp)) rfl ?_)))))
 refine Ch.nil (WP.rs hG (Ch.mv rfl rfl ?_))
 refine Ch.cH (ha) [0] 1 gdN (.cons rfl .nil) (.c (.rfl _) .n) rfl (by refine ⟨?_, ?_, ?_, ?_⟩ <;> first | ((conv => lhs; simp only [nrmA, Nat.reduceAdd, pend_ren]); all_goals rfl) | rfl) (by exact ⟨rfl, trivial⟩) (by exact trivial) rfl ?_
 refine Ch.nil (WP.rs hG (Ch.mv rfl rfl ?_))
 refine Ch.cH (hst) [0] 1 gdN (.cons rfl .nil) (.c (.rfl _) .n) rfl (by refine ⟨?_, ?_, ?_, ?_⟩ <;> first | ((conv => lhs; simp only [nrmA, Nat.reduceAdd, pend_ren]); all_goals rfl) | rfl) (by exact ⟨rfl, trivial⟩) (by exact trivial) rfl ?_
 refine Ch.asg rfl rfl (Ch.nil (WP.ret ?_))
 refine (Ret.of (rs := [6]) (vs := [.v (.int .i64 (errS (actD { d with p0 := some s })))]) (H' := dkH (actD { d with p0 := some s })) (res := .v (.int .i64 (errS (actD { d with p0 := some s })))) [0] ?_ ?_ rfl ?_ (by simp only [List.length_cons, List.length_nil]; decide) ?_).1
 · exact na_of hnA rfl
 · (repeat (first | exact trivial | (refine ⟨⟨(by trivial), _, rfl, .rfl _⟩, ?_⟩)))
 · (repeat (first | exact trivial | refine HFromL.skip ?_ | (refine ⟨⟨(by (simp; first | done | fail)), (by (simp [pend_ren]; first | done | fail))⟩, ?_⟩)))
 rfl
end
end Go.Proofs.YtpnbpcopdckgpaaGreatDoor.E
end
namespace Go.Proofs.YtpnbpcopdckgpaaGreatDoor.V
def layJ (c : UInt64) (s : List UInt8) : List UInt8 := beS c 8 ++ beS (UInt64.ofNat s.length) 4 ++ s ++ List.replicate (236 - s.length) 0 ++ beS c 8
def takeJ (n : Nat) (b : List UInt8) : UInt64 × List UInt8 × Bool :=
 if 200 < (valU ((b.drop 8).take 4)).toNat then (valU (b.take 8), [], false)
 else (valU (b.take 8), (b.drop 12).take (valU ((b.drop 8).take 4)).toNat, decide (1 ≤ (valU (b.take 8)).toNat ∧ (valU (b.take 8)).toNat % 2 = n ∧ layJ (valU (b.take 8)) ((b.drop 12).take (valU ((b.drop 8).take 4)).toNat) = b))
theorem layJ_length (c : UInt64) (s : List UInt8) (h : s.length ≤ 236) : (layJ c s).length = 256 := by
 unfold layJ
 simp only [List.length_append, beS_length, List.length_replicate]
 omega
theorem layJ_end (c : UInt64) (s : List UInt8) (h : s.length ≤ 236) : (layJ c s).drop 248 = beS c 8 := by
 unfold layJ
 exact List.drop_left' (by simp only [List.length_append, beS_length, List.length_replicate]; omega)
theorem layJ_num (c : UInt64) (s : List UInt8) : (layJ c s).take 8 = beS c 8 := by
 unfold layJ
 rw [List.append_assoc, List.append_assoc, List.append_assoc]
 exact List.take_left' (beS_length _ _)
theorem layJ_len (c : UInt64) (s : List UInt8) : ((layJ c s).drop 8).take 4 = beS (UInt64.ofNat s.length) 4 := by
 unfold layJ
 rw [List.append_assoc, List.append_assoc, List.append_assoc, List.drop_left' (beS_length _ _)]
 exact List.take_left' (beS_length _ _)
theorem layJ_text (c : UInt64) (s : List UInt8) : ((layJ c s).drop 12).take s.length = s := by
 unfold layJ
 rw [List.append_assoc, List.append_assoc, List.drop_left' (by simp [beS_length])]
 exact List.take_left' rfl
theorem takeJ_lay (n : Nat) (c : UInt64) (s : List UInt8) (h : s.length ≤ 200) : takeJ n (layJ c s) = (c, s, decide (1 ≤ c.toNat ∧ c.toNat % 2 = n)) := by
 have e : (valU (((layJ c s).drop 8).take 4)).toNat = s.length := by
  rw [layJ_len, valU_beS _ _ (by decide), UInt64.toNat_ofNat', Nat.mod_eq_of_lt (by omega), Nat.mod_eq_of_lt (by omega)]
 unfold takeJ
 rw [e, if_neg (by omega), layJ_num, valU_be8, layJ_text]
 simp
theorem takeJ_ok {n : Nat} {b : List UInt8} (h : (takeJ n b).2.2 = true) : b = layJ (takeJ n b).1 (takeJ n b).2.1 ∧ 1 ≤ (takeJ n b).1.toNat ∧ (takeJ n b).1.toNat % 2 = n ∧ (takeJ n b).2.1.length ≤ 200 := by
 unfold takeJ at h ⊢
 split at h
 · cases h
 rename_i hm
 rw [if_neg hm]
 have h' := of_decide_eq_true h
 exact ⟨h'.2.2.symm, h'.1, h'.2.1, by show (List.take _ _).length ≤ 200; rw [List.length_take]; omega⟩
def betterJ (n : Nat) (b : List UInt8) (o : UInt64 × List UInt8) : UInt64 × List UInt8 :=
 if (takeJ n b).2.2 = true ∧ o.1.toNat < (takeJ n b).1.toNat then ((takeJ n b).1, (takeJ n b).2.1) else o
def openJ (b0 b1 : List UInt8) : UInt64 × List UInt8 := betterJ 1 b1 (betterJ 0 b0 (0, []))
def CurJ (b a : List UInt8) (c : Nat) (s : List UInt8) : Prop :=
 c < 250 ∧ s.length ≤ 200 ∧ b.length = 256 ∧ a.length = 256 ∧ (c = 0 → s = [] ∧ b.drop 248 = beS 0 8) ∧ (1 ≤ c → b = layJ (UInt64.ofNat c) s) ∧ ∃ q : Nat, q ≤ c ∧ a.drop 248 = beS (UInt64.ofNat q) 8
theorem CurJ.last {b a : List UInt8} {c : Nat} {s : List UInt8} (h : CurJ b a c s) : b.drop 248 = beS (UInt64.ofNat c) 8 := by
 obtain ⟨hc, hs, h1, h2, h3, h4, -⟩ := h
 rcases Nat.eq_zero_or_pos c with rfl | hp
 · exact (h3 rfl).2
 rw [h4 hp, layJ_end _ _ (by omega)]
theorem ofNat_toNat {c : Nat} (h : c < 250) : (UInt64.ofNat c).toNat = c := by
 rw [UInt64.toNat_ofNat']
 omega
theorem other_le {a : List UInt8} {n q : Nat} (hq : q < 250) (ha : a.drop 248 = beS (UInt64.ofNat q) 8) (h : (takeJ n a).2.2 = true) : (takeJ n a).1.toNat = q := by
 obtain ⟨h1, h2, h3, h4⟩ := takeJ_ok h
 rw [h1, layJ_end _ _ (by omega)] at ha
 have := congrArg valU ha
 rw [valU_be8, valU_be8] at this
 rw [this, ofNat_toNat hq]
theorem best {b a : List UInt8} {c n : Nat} {s : List UInt8} (h : CurJ b a c s) (o : UInt64 × List UInt8) (ho : o.1.toNat < c ∨ o = (UInt64.ofNat c, s)) (hn : c % 2 = n) : betterJ n b o = (UInt64.ofNat c, s) := by
 obtain ⟨hc, hs, h1, h2, h3, h4, -⟩ := h
 rcases Nat.eq_zero_or_pos c with rfl | hp
 ·
  unfold betterJ
  rcases ho with ho | rfl
  · omega
  refine if_neg fun ⟨k1, k2⟩ => ?_
  have := other_le (q := 0) (by decide) (h3 rfl).2 k1
  rw [this] at k2
  exact absurd k2 (Nat.not_lt_zero _)
 have e := takeJ_lay n (UInt64.ofNat c) s hs
 rw [← h4 hp, ofNat_toNat hc, decide_eq_true (show 1 ≤ c ∧ c % 2 = n from ⟨hp, hn⟩)] at e
 unfold betterJ
 rw [e]
 rcases ho with ho | rfl
 · exact if_pos ⟨rfl, by show o.1.toNat < (UInt64.ofNat c).toNat; rw [ofNat_toNat hc]; exact ho⟩
 exact if_neg fun ⟨_, k⟩ => absurd k (Nat.lt_irrefl _)
theorem other {b a : List UInt8} {c n : Nat} {s : List UInt8} (h : CurJ b a c s) (o : UInt64 × List UInt8) (ho : o.1.toNat ≤ c) (hn : c % 2 ≠ n) : (betterJ n a o = o ∨ (betterJ n a o).1.toNat < c) ∧ (o = (UInt64.ofNat c, s) → betterJ n a o = o) := by
 obtain ⟨hc, hs, h1, h2, h3, h4, q, hq, ha⟩ := h
 unfold betterJ
 by_cases hk : (takeJ n a).2.2 = true
 ·
  have hv := other_le (by omega) ha hk
  have hp := (takeJ_ok hk).2.2.1
  rw [hv] at hp ⊢
  by_cases ho' : o.1.toNat < q
  ·
   rw [if_pos ⟨hk, ho'⟩]
   refine ⟨.inr ?_, fun he => ?_⟩
   ·
    show (takeJ n a).1.toNat < c
    rw [hv]
    have : q ≠ c := fun h => hn (h ▸ hp)
    omega
   subst he
   have : (UInt64.ofNat c).toNat < q := ho'
   rw [ofNat_toNat hc] at this
   omega
  rw [if_neg (fun h => ho' h.2)]
  exact ⟨.inl rfl, fun _ => rfl⟩
 rw [if_neg (fun h => hk h.1)]
 exact ⟨.inl rfl, fun _ => rfl⟩
theorem openJ_even {b a : List UInt8} {c : Nat} {s : List UInt8} (h : CurJ b a c s) (hn : c % 2 = 0) : openJ b a = (UInt64.ofNat c, s) := by
 unfold openJ
 have h0 : betterJ 0 b (0, []) = (UInt64.ofNat c, s) := by
  refine best h _ ?_ hn
  rcases Nat.eq_zero_or_pos c with rfl | hp
  · exact .inr (by rw [(h.2.2.2.2.1 rfl).1]; rfl)
  exact .inl hp
 rw [h0]
 exact (other h _ (by show (UInt64.ofNat c).toNat ≤ c; rw [ofNat_toNat h.1]; exact Nat.le_refl _) (by omega)).2 rfl
theorem openJ_odd {b a : List UInt8} {c : Nat} {s : List UInt8} (h : CurJ b a c s) (hn : c % 2 = 1) : openJ a b = (UInt64.ofNat c, s) := by
 unfold openJ
 refine best h _ ?_ hn
 rcases (other (n := 0) h (0, []) (Nat.zero_le _) (by omega)).1 with h1 | h1
 ·
  rw [h1]
  exact .inl (by show 0 < c; omega)
 exact .inl h1
theorem CurJ.save {b a : List UInt8} {c : Nat} {s : List UInt8} (h : CurJ b a c s) (t : List UInt8) (ht : t.length ≤ 200) (hc : c + 1 < 250) : CurJ (layJ (UInt64.ofNat (c + 1)) t) b (c + 1) t :=
 ⟨hc, ht, layJ_length _ _ (by omega), h.2.2.1, fun h => absurd h (by omega), fun _ => rfl, c, by omega, h.last⟩
theorem be8_low {x : Nat} (h : x < 250) : beS (UInt64.ofNat x) 8 = [0, 0, 0, 0, 0, 0, 0, UInt8.ofNat x] := by
 have e := ofNat_toNat h
 simp only [beS_cons, e]
 have h1 : ∀ k, 1 ≤ k → x / 256 ^ k = 0 := fun k hk => Nat.div_eq_of_lt (Nat.lt_of_lt_of_le (show x < 256 by omega) (by
  have : (256 : Nat) ^ 1 ≤ 256 ^ k := Nat.pow_le_pow_right (by decide) hk
  simpa using this))
 rw [h1 7 (by decide), h1 6 (by decide), h1 5 (by decide), h1 4 (by decide), h1 3 (by decide), h1 2 (by decide), h1 1 (by decide), Nat.pow_zero, Nat.div_one]
 rfl
theorem torn8 {x y : Nat} (hx : x < 250) (hy : y < 250) : ∀ k, k < 8 → (beS (UInt64.ofNat x) 8).take k ++ (beS (UInt64.ofNat y) 8).drop k = beS (UInt64.ofNat y) 8 := by
 intro k hk
 rw [be8_low hx, be8_low hy]
 match k, hk with
 | 0, _ | 1, _ | 2, _ | 3, _ | 4, _ | 5, _ | 6, _ | 7, _ => rfl
theorem CurJ.torn {b a : List UInt8} {c : Nat} {s : List UInt8} (h : CurJ b a c s) (t : List UInt8) (ht : t.length ≤ 200) (hc : c + 1 < 250) (n : Nat) (hn : n < 256) : CurJ b ((layJ (UInt64.ofNat (c + 1)) t).take n ++ a.drop n) c s := by
 obtain ⟨h0, hs, h1, h2, h3, h4, q, hq, ha⟩ := h
 have hl := layJ_length (UInt64.ofNat (c + 1)) t (by omega)
 have he := layJ_end (UInt64.ofNat (c + 1)) t (by omega)
 refine ⟨h0, hs, h1, by rw [List.length_append, List.length_take, List.length_drop]; omega, h3, h4, q, hq, ?_⟩
 rcases Nat.lt_or_ge n 248 with hlt | hge
 ·
  rw [List.drop_append, List.drop_of_length_le (by rw [List.length_take]; omega), List.nil_append, List.length_take, List.drop_drop, Nat.min_eq_left (by omega), show n + (248 - n) = 248 by omega]
  exact ha
 rw [List.drop_append_of_le_length (by rw [List.length_take]; omega), List.drop_take, he, show a.drop n = (a.drop 248).drop (n - 248) by rw [List.drop_drop, show 248 + (n - 248) = n by omega], ha]
 exact torn8 (by omega) (by omega) _ (by omega)
theorem CurJ.whole {b a : List UInt8} {c : Nat} {s : List UInt8} (h : CurJ b a c s) (t : List UInt8) (ht : t.length ≤ 200) (hc : c + 1 < 250) : CurJ ((layJ (UInt64.ofNat (c + 1)) t).take 256 ++ a.drop 256) b (c + 1) t := by
 rw [List.take_of_length_le (by rw [layJ_length _ _ (by omega)]; exact Nat.le_refl _), List.drop_of_length_le (by rw [h.2.2.2.1]; exact Nat.le_refl _), List.append_nil]
 exact h.save t ht hc
end Go.Proofs.YtpnbpcopdckgpaaGreatDoor.V
