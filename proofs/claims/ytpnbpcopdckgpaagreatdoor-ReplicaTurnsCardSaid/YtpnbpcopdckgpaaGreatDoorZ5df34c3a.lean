import Derived.Test.YtpnbpcopdckgpaaGreatDoorZ3073f1f6
import Derived.Test.YtpnbpcopdckgpaaGreatDoorZc1451e67
import Derived.Test.YtpnbpcopdckgpaaGreatDoorZ77f8e77b
import Derived.Test.YtpnbpcopdckgpaaGreatDoorZc9f0e65b
import Derived.Test.YtpnbpcopdckgpaaGreatDoorZfd707a12
namespace Go.Proofs.YtpnbpcopdckgpaaGreatDoor.E
open Go Go.RowKit V
set_option maxRecDepth 4000
theorem vs_raw {N : Nat → Nat → Prop} {ρ : Env} {w : World} {xs : List Value} {args : List AV} {vs : Array Value} (he : args = xs.map AV.v) (hsz : vs.size = args.length) (h : ∀ (i : Nat) (c : AV) (x : Value), args[i]? = some c → vs[i]? = some x → VRel N ρ w c x) : vs = xs.toArray := by
 subst he
 apply Array.ext
 · simpa using hsz
 intro i h1 h2
 have h2' : i < xs.length := by simpa using h2
 have := (h i (.v xs[i]) vs[i] (by simp [h2']) (Array.getElem?_eq_getElem h1)).raw
 simpa using this
def ShaIn (G : List (Nat × Array Value)) : Prop := (1, kArr) ∈ G ∧ (0, first.cells) ∈ G
theorem tabs_hsat {A : Amb} {h : Nat → Option AO} {u : Nat → Bool} {ρ : Env} {w : World} (H : HSat A ρ h u w) {G : List (Nat × Array Value)} (hG : A.G = G) (hm : ShaIn G) : Tabs w := by
 obtain ⟨T, h1⟩ := tab_of H hG (g := 1) (arr := kArr) hm.1
 obtain ⟨T', h2⟩ := tab_of H hG (g := 0) (arr := first.cells) hm.2
 refine ⟨⟨(Array.getElem?_eq_some_iff.1 h1).1, (Array.getElem?_eq_some_iff.1 h2).1⟩, fun i hi => cell_at h1 ?_, T', h2⟩
 have hi' : i < kTab.length := hi
 simp [kArr, lget, hi', wv]
theorem sum_fc {G : List (Nat × Array Value)} (hm : ShaIn G) (l : List UInt8) (hl : (l.length : Int) ≤ 9223372036854775000) : FP G 47 [sA l] [] (sA (sum l)) [] :=
 FC.of_calls Tryz.func47 rfl rfl ⟨trivial, trivial⟩ fun A vs hG HS hsz h => by
  obtain rfl := vs_raw (xs := [.string (B l)]) rfl hsz h
  exact sum_ok l A.w (tabs_hsat HS hG hm) hl
end Go.Proofs.YtpnbpcopdckgpaaGreatDoor.E
section
namespace Go.Proofs.YtpnbpcopdckgpaaGreatDoor.E
open Go Go.RowKit Go.Proofs.YtpnbpcopdckgpaaGreatDoor.V
set_option maxRecDepth 4000
section
variable {P : Program} {G : List (Nat × Array Value)} {dst : Option Tmp} {ty : TypeId} {pos : String} {aft : Array Edge} {gd : Option (Nat × Bool)}
theorem OpS.shrN {t t' : TypeId} {x y : Operand} {n j : Nat} {k' : IntKind} {m : Int} (h : m = (j : Int)) (hj : j ≤ 64) :
  OpS P G ⟨dst, .binOp .shr t x y t', ty, pos, aft, gd⟩ [(x, .v (.int .i64 (n : Int))), (y, .v (.int k' m))] [] ⟨some (.v (.int .i64 ((n / 2 ^ j : Nat) : Int))), [], []⟩ := by
 subst h
 refine OpS.binR rfl fun w => ?_
 show (Op.shift .shr .i64 (n : Int) k' (j : Int)).run P w = _
 unfold Op.shift
 rw [if_neg (by omega)]
 show Result.ok (Value.int .i64 ((n : Int).fdiv (2 ^ (min ((j : Int)).toNat 64)))) w = _
 rw [Int.toNat_natCast, Nat.min_eq_left hj, Int.fdiv_eq_ediv_of_nonneg _ (by have := Int.natCast_nonneg (2 ^ j : Nat); push_cast at this; exact this), Int.natCast_ediv, Int.natCast_pow]
 rfl
end
theorem eat_next (m : Nat) (v : V.St) (l : List UInt8) (h : 64 * m ≤ l.length) : eat (m + 1) v l = mixed (eat m v l) ((l.drop (64 * m)).take 64) := by
 have hx : (l.take (64 * m)).length = 64 * m := by simp; omega
 have h1 := eat_append m 1 v (l.take (64 * m)) (l.drop (64 * m)) hx
 have h0 := eat_append m 0 v (l.take (64 * m)) (l.drop (64 * m)) hx
 rw [List.take_append_drop] at h1 h0
 have h0' : eat m v l = eat m v (l.take (64 * m)) := h0
 rw [h1, h0']
 rfl
theorem sum_eat (l : List UInt8) : ∃ q, (l ++ pad l.length).length = 64 * q ∧ sum l = (eat q first (l ++ pad l.length)).text := by
 have hp := pad_len l.length
 refine ⟨(l ++ pad l.length).length / 64, ?_, rfl⟩
 rw [List.length_append]
 omega
attribute [local irreducible] mixed readSt St.text pad sum
theorem rsum_fc {G : List (Nat × Array Value)} (hk : (3, kArr) ∈ G) (hf : (2, first.cells) ∈ G) (l : List UInt8) (hl : (l.length : Int) ≤ 9223372036854775000) :
  FP G 70 [sA l] [] (sA (sum l)) [] := by
 refine FC.of_wp [2] Tryz.func70 rfl rfl rfl rfl (by trivial) (by trivial) (Nat.le_of_ble_eq_true rfl) ?_
 intro A hG hnA hAB
 unfold start
 refine WP.rs hG (Ch.asg rfl rfl (Ch.nil (WP.rs hG (Ch.callP (first_fc hf) gdN .nil .n (by rfl) rfl ?_))))
 refine Ch.asg rfl rfl (Ch.nil ?_)
 have hp := pad_len l.length
 refine WP.rs hG (Ch.mv rfl rfl (Ch.mv rfl rfl (Ch.p1 rfl (OpS.lenS rfl) rfl (Ch.callP (rpad_fc l.length (by omega)) gdN (.cons rfl .nil) (.c (.rfl _) .n) (by rfl) rfl ?_))))
 refine Ch.p2 rfl rfl (OpS.strAdd (by omega)) rfl ?_
 refine Ch.asg rfl rfl (Ch.nil (WP.seq ?_))
 obtain ⟨q, hq, hs⟩ := sum_eat l
 have hpl : (l ++ pad l.length).length ≤ 9223372036854775100 := by rw [List.length_append]; omega
 generalize l ++ pad l.length = X at *
 refine WP.rs hG (Ch.asg rfl rfl (Ch.nil (WP.block ?_)))
 refine WP.loop (fun k σ => ∃ m ii : Nat, (ii = 64 * m ∧ m + k = q) ∧ σ = ⟨27, ls [(3, sA (eat m first X).text), (4, sA X), (5, .v (.int .i64 (ii : Int)))], lh [], blt 0⟩) (q) (Ent.of [] ?_ ?_ ?_ ?_).se ⟨0, 0, by omega, rfl⟩ ?_
 · exact na_of hnA rfl
 · (repeat (first | exact trivial | (refine ⟨⟨(by trivial), _, rfl, .rfl _⟩, ?_⟩)))
 · (repeat (first | exact trivial | (refine ⟨⟨rfl, (by first | trivial | (simp; first | done | fail) | exact ⟨trivial, hbel _⟩), (by first | rfl | (simp; first | done | fail))⟩, ?_⟩)))
 · exact nd_of rfl
 rintro k σ ⟨m, ii, ⟨hi, hm⟩, rfl⟩
 have hc := eat_next m first X (by omega)
 rw [← hi, ← readSt_text (eat m first X)] at hc
 refine WP.seq (WP.rs hG (Ch.mv rfl rfl (Ch.p2 rfl rfl (OpS.int rfl (by exact wr64 (by omega))) rfl ?_)))
 refine Ch.mv rfl rfl (Ch.p1 rfl (OpS.lenS rfl) rfl (Ch.p2 rfl rfl (OpS.int rfl (by exact rfl)) rfl ?_))
 refine Ch.nil ?_
 refine WP.cond rfl ?_ ?_
 ·
  intro ht
  have ht' := of_decide_eq_true ht
  have hsub : ii + 64 - ii = 64 := by omega
  refine WP.skip (WP.seq (WP.block (WP.rg hG (Ch.mv rfl rfl (Ch.mv rfl rfl (Ch.mv rfl rfl (Ch.mv rfl rfl (Ch.p2 rfl rfl (OpS.int rfl (by exact wr64 (by omega))) rfl ?_))))))))
  refine Ch.p3 rfl rfl rfl (OpS.sliceS rfl (by with_reducible exact Int.toNat_natCast _) (by with_reducible exact tnLitA _ _) (by omega) (by omega) (by omega)) rfl ?_
  refine Ch.callP (rblock_fc hk (eat m first X).text ((X.drop ii).take (ii + 64 - ii)) (St.text_length _) (by simp; omega)) gdN (.cons rfl (.cons rfl .nil)) (.c (.rfl _) (.c (.rfl _) .n)) (by rfl) rfl ?_
  refine Ch.asg rfl rfl (Ch.nil (WP.rg hG (Ch.mv rfl rfl (Ch.p2 rfl rfl (OpS.int rfl (by exact wr64 (by omega))) rfl ?_))))
  refine Ch.asg rfl rfl (Ch.nil ?_)
  refine ⟨k - 1, _, by omega, (Ent.of [] ?_ ?_ ?_ ?_).se, m + 1, ii + 64, by omega, rfl⟩
  · exact na_of hnA rfl
  · (repeat (first | exact trivial | (refine ⟨⟨(by trivial), _, rfl, (by first | exact .rfl _ | exact .of_eq (by simp [hc]; first | done | fail))⟩, ?_⟩)))
  · (repeat (first | exact trivial | (refine ⟨⟨rfl, (by first | trivial | (simp; first | done | fail) | exact ⟨trivial, hbel _⟩), (by first | rfl | (simp [hc]; first | done | fail))⟩, ?_⟩)))
  exact nd_of rfl
 intro ht
 have ht' := of_decide_eq_false ht
 obtain rfl : m = q := by omega
 refine WP.exit (WP.rs hG (Ch.mv rfl rfl (Ch.asg rfl rfl (Ch.nil ?_))))
 exact WP.ret (Ret.one rfl (.of_eq (by simp [hs])) trivial hnA)
theorem be4_nat (n : Nat) : [UInt8.ofNat (n / 2 ^ 24), UInt8.ofNat (n / 2 ^ 16), UInt8.ofNat (n / 2 ^ 8), UInt8.ofNat n] = be4 (UInt32.ofNat n) := by
 simp only [be4, List.cons.injEq, and_true]
 refine ⟨?_, ?_, ?_, ?_⟩ <;> (apply UInt8.toNat_inj.1; simp [shr32] <;> omega)
theorem rinput_fc {G : List (Nat × Array Value)} (d : UInt8) (ps : List (List UInt8)) (hL : (input d ps).length ≤ 140737488355328) :
  FP G 21 [.v (.int .u8 (U8 d)), .sl none ps.length (ps.map sA)] [] (sA (input d ps)) [] := by
 refine FC.of_wp [4] Tryz.func21 rfl rfl rfl rfl (by (simp; first | done | fail)) (by trivial) (Nat.le_of_ble_eq_true rfl) ?_
 intro A hG hnA hAB
 unfold start
 refine WP.rs hG (Ch.asg rfl rfl (Ch.nil (WP.rs hG (Ch.mv rfl rfl (Ch.pup gdN (by repeat (first | exact EvP.nil | (apply EvP.cons; exact rfl))) (OpS.slice1 rfl rfl rfl rfl rfl rfl (by rfl) rfl (by rfl)) rfl ?_)))))
 refine Ch.p1 rfl (OpS.b2s (l := [d]) rfl rfl rfl rfl) rfl (Ch.asg rfl rfl (Ch.nil (WP.seq ?_)))
 have hmany := input_many d ps
 refine WP.rs hG (Ch.asg rfl rfl (Ch.nil (WP.block ?_)))
 refine WP.loop (fun k σ => ∃ m : Nat, m + k = ps.length ∧ σ = ⟨43, ls [(1, .sl none ps.length (ps.map sA)), (5, sA (input d (ps.take m))), (6, .v (.int .i64 (m : Int)))], lh [], blt 0⟩) (ps.length) (Ent.of [] ?_ ?_ ?_ ?_).se ⟨0, by omega, rfl⟩ ?_
 · exact na_of hnA rfl
 · (repeat (first | exact trivial | (refine ⟨⟨(by first | trivial | (simp; first | done | fail)), _, rfl, (by first | exact .rfl _ | exact .of_eq (by simp; first | done | fail))⟩, ?_⟩)))
 · (repeat (first | exact trivial | (refine ⟨⟨rfl, (by first | trivial | (simp; first | done | fail) | exact ⟨trivial, hbel _⟩), (by first | rfl | (simp; first | done | fail))⟩, ?_⟩)))
 · exact nd_of rfl
 rintro k σ ⟨m, hm, rfl⟩
 refine WP.seq (WP.rs hG (Ch.mv rfl rfl (Ch.mv rfl rfl (Ch.p1 rfl (OpS.len rfl) rfl (Ch.p2 rfl rfl (OpS.int rfl (by exact rfl)) rfl ?_)))))
 refine Ch.nil ?_
 refine WP.cond rfl ?_ ?_
 ·
  intro ht
  have ht' := of_decide_eq_true ht
  have hc : input d (ps.take (m + 1)) = input d (ps.take m) ++ be4 (UInt32.ofNat (el ps m).length) ++ el ps m := input_take d ps m (by omega)
  rw [← be4_nat] at hc
  have hle := input_le d ps (m + 1)
  have hlen : (input d (ps.take m)).length + 4 + (el ps m).length ≤ 140737488355328 := by
   rw [hc] at hle
   simp only [List.length_append, List.length_cons, List.length_nil] at hle
   omega
  refine WP.skip (WP.seq (WP.block (WP.rs hG (Ch.mv rfl rfl (Ch.mv rfl rfl (Ch.p2 rfl rfl (OpS.indexM rfl rfl rfl (by with_reducible exact Int.toNat_natCast _) (by omega) (by omega) (by rfl)) rfl ?_))))))
  refine Ch.p1 rfl (OpS.loadS rfl rfl) rfl (Ch.p1 rfl (OpS.lenS rfl) rfl (Ch.asg rfl rfl (Ch.nil (WP.rgD (by kernel_rfl) hG (Ch.mv rfl rfl (Ch.mv rfl rfl (Ch.p2 rfl rfl (OpS.shrN (j := 24) rfl (by decide)) rfl ?_)))))))
  refine Ch.p1 rfl (OpS.conv rfl rfl (by exact cv_u8_nat _)) rfl ?_
  refine Ch.mv rfl rfl (Ch.p2 rfl rfl (OpS.shrN (j := 16) rfl (by decide)) rfl ?_)
  refine Ch.p1 rfl (OpS.conv rfl rfl (by exact cv_u8_nat _)) rfl ?_
  refine Ch.mv rfl rfl (Ch.p2 rfl rfl (OpS.shrN (j := 8) rfl (by decide)) rfl ?_)
  refine Ch.p1 rfl (OpS.conv rfl rfl (by exact cv_u8_nat _)) rfl ?_
  refine Ch.mv rfl rfl (Ch.p1 rfl (OpS.conv rfl rfl (by exact cv_u8_nat _)) rfl ?_)
  refine Ch.pup gdN (by repeat (first | exact EvP.nil | (apply EvP.cons; exact rfl))) (OpS.slice1 rfl rfl rfl rfl rfl rfl (by rfl) rfl (by rfl)) rfl ?_
  refine Ch.p1 rfl (OpS.b2s (l := [UInt8.ofNat ((el ps m).length / 2 ^ 24), UInt8.ofNat ((el ps m).length / 2 ^ 16), UInt8.ofNat ((el ps m).length / 2 ^ 8), UInt8.ofNat (el ps m).length]) rfl rfl rfl rfl) rfl (Ch.p2 rfl rfl (OpS.strAdd (by simp; omega)) rfl ?_)
  refine Ch.mv rfl rfl (Ch.mv rfl rfl (Ch.p2 rfl rfl (OpS.indexM rfl rfl rfl (by with_reducible exact Int.toNat_natCast _) (by omega) (by omega) (by rfl)) rfl ?_))
  refine Ch.p1 rfl (OpS.loadS rfl rfl) rfl (Ch.p2 rfl rfl (OpS.strAdd (by simp; omega)) rfl ?_)
  refine Ch.asg rfl rfl (Ch.nilD ?_ (by kernel_rfl))
  refine WP.rg hG (Ch.mv rfl rfl (Ch.p2 rfl rfl (OpS.int rfl (by exact wr64 (by omega))) rfl ?_))
  refine Ch.asg rfl rfl (Ch.nil ?_)
  refine ⟨k - 1, _, by omega, (Ent.of [] ?_ ?_ ?_ ?_).se, m + 1, by omega, rfl⟩
  · exact na_of hnA rfl
  · (repeat (first | exact trivial | (refine ⟨⟨(by first | trivial | (simp; first | done | fail)), _, rfl, (by first | exact .rfl _ | exact .of_eq (by simp [hc]; first | done | fail))⟩, ?_⟩)))
  · (repeat (first | exact trivial | (refine ⟨⟨rfl, (by first | trivial | (simp; first | done | fail) | exact ⟨trivial, hbel _⟩), (by first | rfl | (simp [hc]; first | done | fail))⟩, ?_⟩)))
  exact nd_of rfl
 intro ht
 have ht' := of_decide_eq_false ht
 obtain rfl : m = ps.length := by omega
 refine WP.exit (WP.rs hG (Ch.mv rfl rfl (Ch.asg rfl rfl (Ch.nil ?_))))
 exact WP.ret (Ret.one rfl (.of_eq (by simp)) trivial hnA)
theorem rtag_fc {G : List (Nat × Array Value)} (hk : (3, kArr) ∈ G) (hf : (2, first.cells) ∈ G) (d : UInt8) (ps : List (List UInt8)) (hL : (input d ps).length ≤ 140737488355328) :
  FP G 45 [.v (.int .u8 (U8 d)), .sl none ps.length (ps.map sA)] [] (sA (tag d ps)) [] := by
 refine FC.of_wp [4] Tryz.func45 rfl rfl rfl rfl (by (simp; first | done | fail)) (by trivial) (Nat.le_of_ble_eq_true rfl) ?_
 intro A hG hnA hAB
 unfold start
 refine WP.rs hG (Ch.asg rfl rfl (Ch.nil (WP.rs hG (Ch.mv rfl rfl (Ch.mv rfl rfl (Ch.callP (rinput_fc d ps hL) gdN (.cons rfl (.cons rfl .nil)) (.c (.rfl _) (.c (AV.wk.sh (renL_s _ _)) .n)) (by rfl) rfl ?_))))))
 refine Ch.callP (rsum_fc hk hf (input d ps) (by omega)) gdN (.cons rfl .nil) (.c (.rfl _) .n) (by rfl) rfl ?_
 refine Ch.asg rfl rfl (Ch.nil ?_)
 refine WP.ret (Ret.one rfl (by exact .rfl _) (by trivial) hnA)
end Go.Proofs.YtpnbpcopdckgpaaGreatDoor.E
end
namespace Go.Proofs.YtpnbpcopdckgpaaGreatDoor.E
open Go Go.RowKit V
theorem strs_of {N : Nat → Nat → Prop} {ρ : Env} {w : World} {ps : List (List UInt8)} {v : Value} (h : VRel N ρ w (.sl none ps.length (ps.map sA)) v) (hN : ∀ b o, N b o → b < w.heap.size) : Strs w v ps := by
 cases h with
 | sl o n cs a cap vals hc h ho hn hz hm =>
  refine ⟨a, cap, rfl, hn, hm, fun i hi => ?_⟩
  obtain ⟨_, b, off, ha, hx, hnn⟩ := hc i (by simpa using hi)
  have hv := (h i (.v (.string (B (sget ps i)))) (by simp [sget, hi])).raw
  refine ⟨b, off, ha, hN _ _ hnn, ?_⟩
  rw [hx, hv]
  rfl
theorem two {vs : Array Value} (h : vs.size = 2) : ∃ a b, vs = #[a, b] := by
 obtain ⟨l⟩ := vs
 match l, h with
 | [a, b], _ => exact ⟨a, b, rfl⟩
theorem input_fc {G : List (Nat × Array Value)} (d : UInt8) (ps : List (List UInt8)) (hL : (input d ps).length ≤ 140737488355328) :
  FP G 68 [.v (.int .u8 (U8 d)), .sl none ps.length (ps.map sA)] [] (sA (input d ps)) [] :=
 FC.of_calls Tryz.func68 rfl rfl ⟨trivial, ⟨by simp, belL_s _ _⟩, trivial⟩ fun A vs hG HS hsz h => by
  obtain ⟨a, v, rfl⟩ := two hsz
  obtain rfl := (h 0 _ _ rfl rfl).raw
  exact input_ok d v ps A.w (strs_of (h 1 _ _ rfl rfl) fun b o hb => hb.1) hL
theorem tag_fc {G : List (Nat × Array Value)} (hm : ShaIn G) (d : UInt8) (ps : List (List UInt8)) (hL : (input d ps).length ≤ 140737488355328) :
  FP G 41 [.v (.int .u8 (U8 d)), .sl none ps.length (ps.map sA)] [] (sA (tag d ps)) [] :=
 FC.of_calls Tryz.func41 rfl rfl ⟨trivial, ⟨by simp, belL_s _ _⟩, trivial⟩ fun A vs hG HS hsz h => by
  obtain ⟨a, v, rfl⟩ := two hsz
  obtain rfl := (h 0 _ _ rfl rfl).raw
  exact tag_ok d v ps A.w (tabs_hsat HS hG hm) (strs_of (h 1 _ _ rfl rfl) fun b o hb => hb.1) hL
end Go.Proofs.YtpnbpcopdckgpaaGreatDoor.E
namespace Go.Proofs.YtpnbpcopdckgpaaGreatDoor.E
open Go Go.RowKit V
set_option maxRecDepth 4000
theorem nrm_cases (n : Int) : n < 0 ∨ (0 ≤ n ∧ 4294967296 < n) ∨ (0 ≤ n ∧ n ≤ 4294967296) := by omega
theorem nrm_0 {n : Int} (h : n < 0 ∨ 4294967296 < n) : nrm n = 0 := if_pos h
theorem nrm_n {n : Int} (h : 0 ≤ n ∧ n ≤ 4294967296) : nrm n = n.toNat := if_neg (by omega)
attribute [local irreducible] sum tag input
theorem laid_fc {G : List (Nat × Array Value)} (n : Int) : FC Tryz.prog G 155 [.v (.int .i64 n)] [] (sA (laidN n)) [] := by
 refine FC.of_wp [2] Tryz.func155 rfl rfl rfl rfl (by trivial) (by trivial) (Nat.le_of_ble_eq_true rfl) ?_
 intro A hG hnA hAB
 unfold start
 refine WP.rs hG (Ch.asg rfl rfl (Ch.nil ?_))
 refine WP.seqJ (fun σ => ∃ m : Nat, m = nrm n ∧ σ = ⟨17, ls [(0, .v (.int .i64 (m : Int)))], lh [], blt 0⟩) ?_ ?_
 ·
  skip
  rcases nrm_cases n with hq | hq | hq
  ·
   have hs := hq
   refine WP.rs hG (Ch.mv rfl rfl (Ch.p2 rfl rfl (OpS.int (v' := .bool true) rfl (by (simp [hs]; done))) rfl ?_))
   refine Ch.mv rfl rfl (Ch.skU (gdF rfl rfl rfl) rfl (Ch.skU (gdF rfl rfl rfl) rfl (Ch.p2 rfl rfl (OpS.pickT) rfl (Ch.nil (WP.cond_true rfl (WP.rg hG (Ch.asg rfl rfl (Ch.nil ?_))))))))
   refine ⟨_, (Ent.of [] ?_ ?_ ?_ ?_).se, 0, (nrm_0 (.inl hs)).symm, rfl⟩
   · exact na_of hnA rfl
   · (repeat (first | exact trivial | (refine ⟨⟨(by trivial), _, rfl, .rfl _⟩, ?_⟩)))
   · (repeat (first | exact trivial | (refine ⟨⟨rfl, (by first | trivial | (simp; first | done | fail) | exact ⟨trivial, hbel _⟩), (by first | rfl | (simp; first | done | fail))⟩, ?_⟩)))
   exact nd_of rfl
  ·
   have hs := hq
   refine WP.rs hG (Ch.mv rfl rfl (Ch.p2 rfl rfl (OpS.int (v' := .bool false) rfl (by (simp [hs]; done))) rfl ?_))
   refine Ch.mv rfl rfl (Ch.gm rfl rfl rfl rfl (Ch.g2 rfl rfl rfl rfl (OpS.int (v' := .bool true) rfl (by (simp [hs]; done))) rfl ?_))
   refine Ch.p2 rfl rfl (OpS.pickF) rfl (Ch.nil (WP.cond_true rfl (WP.rg hG (Ch.asg rfl rfl (Ch.nil ?_)))))
   refine ⟨_, (Ent.of [] ?_ ?_ ?_ ?_).se, 0, (nrm_0 (.inr hs.2)).symm, rfl⟩
   · exact na_of hnA rfl
   · (repeat (first | exact trivial | (refine ⟨⟨(by trivial), _, rfl, .rfl _⟩, ?_⟩)))
   · (repeat (first | exact trivial | (refine ⟨⟨rfl, (by first | trivial | (simp; first | done | fail) | exact ⟨trivial, hbel _⟩), (by first | rfl | (simp; first | done | fail))⟩, ?_⟩)))
   exact nd_of rfl
  have hs := hq
  obtain ⟨m, rfl⟩ : ∃ m : Nat, n = (m : Int) := ⟨n.toNat, by omega⟩
  refine WP.rs hG (Ch.mv rfl rfl (Ch.p2 rfl rfl (OpS.int (v' := .bool false) rfl (by (simp [hs]; done))) rfl ?_))
  refine Ch.mv rfl rfl (Ch.gm rfl rfl rfl rfl (Ch.g2 rfl rfl rfl rfl (OpS.int (v' := .bool false) rfl (by (simp [hs]; done))) rfl ?_))
  refine Ch.p2 rfl rfl (OpS.pickF) rfl (Ch.nil (WP.cond_false rfl (WP.skip ?_)))
  refine ⟨_, (Ent.of [] ?_ ?_ ?_ ?_).se, m, by rw [nrm_n hs, Int.toNat_natCast], rfl⟩
  · exact na_of hnA rfl
  · (repeat (first | exact trivial | (refine ⟨⟨(by trivial), _, rfl, .rfl _⟩, ?_⟩)))
  · (repeat (first | exact trivial | (refine ⟨⟨rfl, (by first | trivial | (simp; first | done | fail) | exact ⟨trivial, hbel _⟩), (by first | rfl | (simp; first | done | fail))⟩, ?_⟩)))
  exact nd_of rfl
 rintro σ ⟨m, hm, rfl⟩
 refine WP.rs hG ?_
 refine Ch.cH (newWriter_fc) [] 0 gdN .nil .n rfl (by refine ⟨?_, ?_, ?_, ?_⟩ <;> first | ((conv => lhs; simp only [nrmA, Nat.reduceAdd]); all_goals rfl) | rfl) (by exact trivial) (by exact ⟨rfl, rfl, trivial⟩) rfl ?_
 refine Ch.asg rfl rfl (Ch.nil (WP.rs hG (Ch.mv rfl rfl (Ch.mv rfl rfl (Ch.p1 rfl (OpS.conv rfl rfl (by exact cv_u64_nat _)) rfl ?_)))))
 refine Ch.cH (wNum_fc [] (UInt64.ofNat m) (by simp)) [0,1] 2 gdN (.cons rfl (.cons rfl .nil)) (.c (.rfl _) (.c (.rfl _) .n)) rfl (by refine ⟨?_, ?_, ?_, ?_⟩ <;> first | ((conv => lhs; simp only [nrmA, Nat.reduceAdd]); all_goals rfl) | rfl) (by exact ⟨rfl, rfl, trivial⟩) (by exact ⟨rfl, trivial⟩) rfl ?_
 refine Ch.nil (WP.rs hG (Ch.mv rfl rfl ?_))
 refine Ch.cH (wBytes_fc (beS (UInt64.ofNat m) 8)) [0,2] 3 gdN (.cons rfl .nil) (.c (.rfl _) .n) rfl (by refine ⟨?_, ?_, ?_, ?_⟩ <;> first | ((conv => lhs; simp only [nrmA, Nat.reduceAdd]); all_goals rfl) | rfl) (by exact ⟨rfl, rfl, trivial⟩) (by exact trivial) rfl ?_
 refine Ch.asg rfl rfl (Ch.nil ?_)
 exact WP.ret (Ret.one rfl (.of_eq (by rw [hm]; rfl)) trivial hnA)
theorem rlaid_fc {G : List (Nat × Array Value)} (n : Int) : FC Tryz.prog G 148 [.v (.int .i64 n)] [] (sA (laidN n)) [] := by
 refine FC.of_wp [2] Tryz.func148 rfl rfl rfl rfl (by trivial) (by trivial) (Nat.le_of_ble_eq_true rfl) ?_
 intro A hG hnA hAB
 unfold start
 refine WP.rs hG (Ch.asg rfl rfl (Ch.nil ?_))
 refine WP.seqJ (fun σ => ∃ m : Nat, m = nrm n ∧ σ = ⟨17, ls [(0, .v (.int .i64 (m : Int)))], lh [], blt 0⟩) ?_ ?_
 ·
  skip
  rcases nrm_cases n with hq | hq | hq
  ·
   have hs := hq
   refine WP.rs hG (Ch.mv rfl rfl (Ch.p2 rfl rfl (OpS.int (v' := .bool true) rfl (by (simp [hs]; done))) rfl ?_))
   refine Ch.mv rfl rfl (Ch.skU (gdF rfl rfl rfl) rfl (Ch.skU (gdF rfl rfl rfl) rfl (Ch.p2 rfl rfl (OpS.pickT) rfl (Ch.nil (WP.cond_true rfl (WP.rg hG (Ch.asg rfl rfl (Ch.nil ?_))))))))
   refine ⟨_, (Ent.of [] ?_ ?_ ?_ ?_).se, 0, (nrm_0 (.inl hs)).symm, rfl⟩
   · exact na_of hnA rfl
   · (repeat (first | exact trivial | (refine ⟨⟨(by trivial), _, rfl, .rfl _⟩, ?_⟩)))
   · (repeat (first | exact trivial | (refine ⟨⟨rfl, (by first | trivial | (simp; first | done | fail) | exact ⟨trivial, hbel _⟩), (by first | rfl | (simp; first | done | fail))⟩, ?_⟩)))
   exact nd_of rfl
  ·
   have hs := hq
   refine WP.rs hG (Ch.mv rfl rfl (Ch.p2 rfl rfl (OpS.int (v' := .bool false) rfl (by (simp [hs]; done))) rfl ?_))
   refine Ch.mv rfl rfl (Ch.gm rfl rfl rfl rfl (Ch.g2 rfl rfl rfl rfl (OpS.int (v' := .bool true) rfl (by (simp [hs]; done))) rfl ?_))
   refine Ch.p2 rfl rfl (OpS.pickF) rfl (Ch.nil (WP.cond_true rfl (WP.rg hG (Ch.asg rfl rfl (Ch.nil ?_)))))
   refine ⟨_, (Ent.of [] ?_ ?_ ?_ ?_).se, 0, (nrm_0 (.inr hs.2)).symm, rfl⟩
   · exact na_of hnA rfl
   · (repeat (first | exact trivial | (refine ⟨⟨(by trivial), _, rfl, .rfl _⟩, ?_⟩)))
   · (repeat (first | exact trivial | (refine ⟨⟨rfl, (by first | trivial | (simp; first | done | fail) | exact ⟨trivial, hbel _⟩), (by first | rfl | (simp; first | done | fail))⟩, ?_⟩)))
   exact nd_of rfl
  have hs := hq
  obtain ⟨m, rfl⟩ : ∃ m : Nat, n = (m : Int) := ⟨n.toNat, by omega⟩
  refine WP.rs hG (Ch.mv rfl rfl (Ch.p2 rfl rfl (OpS.int (v' := .bool false) rfl (by (simp [hs]; done))) rfl ?_))
  refine Ch.mv rfl rfl (Ch.gm rfl rfl rfl rfl (Ch.g2 rfl rfl rfl rfl (OpS.int (v' := .bool false) rfl (by (simp [hs]; done))) rfl ?_))
  refine Ch.p2 rfl rfl (OpS.pickF) rfl (Ch.nil (WP.cond_false rfl (WP.skip ?_)))
  refine ⟨_, (Ent.of [] ?_ ?_ ?_ ?_).se, m, by rw [nrm_n hs, Int.toNat_natCast], rfl⟩
  · exact na_of hnA rfl
  · (repeat (first | exact trivial | (refine ⟨⟨(by trivial), _, rfl, .rfl _⟩, ?_⟩)))
  · (repeat (first | exact trivial | (refine ⟨⟨rfl, (by first | trivial | (simp; first | done | fail) | exact ⟨trivial, hbel _⟩), (by first | rfl | (simp; first | done | fail))⟩, ?_⟩)))
  exact nd_of rfl
 rintro σ ⟨m, hm, rfl⟩
 refine WP.rs hG ?_
 refine Ch.cH (rnewWriter_fc) [] 0 gdN .nil .n rfl (by refine ⟨?_, ?_, ?_, ?_⟩ <;> first | ((conv => lhs; simp only [nrmA, Nat.reduceAdd]); all_goals rfl) | rfl) (by exact trivial) (by exact ⟨rfl, trivial⟩) rfl ?_
 refine Ch.asg rfl rfl (Ch.nil (WP.rs hG (Ch.mv rfl rfl (Ch.mv rfl rfl (Ch.p1 rfl (OpS.conv rfl rfl (by exact cv_u64_nat _)) rfl ?_)))))
 refine Ch.cH (rwNum_fc [] (UInt64.ofNat m) (by simp)) [0] 1 gdN (.cons rfl (.cons rfl .nil)) (.c (.rfl _) (.c (.rfl _) .n)) rfl (by refine ⟨?_, ?_, ?_, ?_⟩ <;> first | ((conv => lhs; simp only [nrmA, Nat.reduceAdd]); all_goals rfl) | rfl) (by exact ⟨rfl, trivial⟩) (by exact trivial) rfl ?_
 refine Ch.nil (WP.rs hG (Ch.mv rfl rfl ?_))
 refine Ch.cH (rwBytes_fc (beS (UInt64.ofNat m) 8)) [0] 1 gdN (.cons rfl .nil) (.c (.rfl _) .n) rfl (by refine ⟨?_, ?_, ?_, ?_⟩ <;> first | ((conv => lhs; simp only [nrmA, Nat.reduceAdd]); all_goals rfl) | rfl) (by exact ⟨rfl, trivial⟩) (by exact trivial) rfl ?_
 refine Ch.asg rfl rfl (Ch.nil ?_)
 exact WP.ret (Ret.one rfl (.of_eq (by rw [hm]; rfl)) trivial hnA)
end Go.Proofs.YtpnbpcopdckgpaaGreatDoor.E
namespace Go.Proofs.YtpnbpcopdckgpaaGreatDoor.E
open Go Go.RowKit V
set_option maxRecDepth 4000
def RefIn (G : List (Nat × Array Value)) : Prop := (3, kArr) ∈ G ∧ (2, V.first.cells) ∈ G
theorem in3_len (a b c : List UInt8) (d : UInt8) : (input d [a, b, c]).length = a.length + b.length + c.length + 13 := by
 simp [input, V.be4_length]
 omega
theorem in1_len (a : List UInt8) (d : UInt8) : (input d [a]).length = a.length + 5 := by
 simp [input, V.be4_length]
 omega
theorem inL_len (d : UInt8) (ps : List (List UInt8)) (n : Nat) (h : ∀ p ∈ ps, p.length ≤ n) : (input d ps).length ≤ 1 + ps.length * (n + 4) := by
 unfold input
 rw [List.length_cons]
 have : ∀ l : List (List UInt8), (∀ p ∈ l, p.length ≤ n) → (l.flatMap fun p => be4 (UInt32.ofNat p.length) ++ p).length ≤ l.length * (n + 4) := fun l => by
  induction l with
  | nil => intro _; simp
  | cons p l ih =>
   intro h
   have h1 := ih (fun q hq => h q (by simp [hq]))
   have h2 := h p (by simp)
   rw [List.flatMap_cons, List.length_append, List.length_append, V.be4_length, List.length_cons, Nat.add_mul]
   omega
 have := this ps h
 omega
theorem three_step (from' to' : Int) : from' < 0 ∨ (0 ≤ from' ∧ 15 < to') ∨ (0 ≤ from' ∧ to' ≤ 15) := by omega
theorem walkT_no {c a b : Int} {v : Txw} (h : a < 0 ∨ 15 < b) : walkT c a b v = v := if_pos h
theorem walkT_end {c a b : Int} {v : Txw} (h : b ≤ a) : walkT c a b v = v := by
 unfold walkT
 split
 · rfl
 rw [show (b - a).toNat = 0 by omega]; rfl
theorem walkT_go {c a b : Int} {v : Txw} (h0 : 0 ≤ a) (h1 : a < b) (h2 : b ≤ 15) : walkT c a b v = walkT c (a + 1) b (wstep c a v) := by
 unfold walkT
 rw [if_neg (by omega), if_neg (by omega)]
 rw [show (b - a).toNat = (b - (a + 1)).toNat + 1 by omega]
 rfl
attribute [local irreducible] sum tag input laidN wstep walkT
theorem value_fc {G : List (Nat × Array Value)} (hm : ShaIn G) (d : UInt8) (ps : List (List UInt8)) (hL : (input d ps).length ≤ 140737488355328) :
  FP G 154 [.v (.int .u8 (U8 d)), .sl none ps.length (ps.map sA)] [] (sA ((tag d ps).take 16)) [] := by
 have htl := tag_length d ps
 refine FC.of_wp [4] Tryz.func154 rfl rfl rfl rfl ⟨trivial, ⟨by simp, belL_s _ _⟩, trivial⟩ trivial (Nat.le_of_ble_eq_true rfl) ?_
 intro A hG hnA hAB
 unfold start
 refine WP.rs hG (Ch.asg rfl rfl (Ch.nil (WP.rs hG (Ch.mv rfl rfl (Ch.mv rfl rfl (Ch.callP (tag_fc hm d ps hL) gdN (.cons rfl (.cons rfl .nil)) (.c (.rfl _) (.c (AV.wk.sh (renL_s _ _)) .n)) (by rfl) rfl ?_))))))
 refine Ch.p2 rfl rfl (OpS.sliceSh rfl (by with_reducible exact tnL _) (by omega) (by omega)) rfl ?_
 refine Ch.asg rfl rfl (Ch.nil ?_)
 refine WP.ret (Ret.one rfl (by exact .rfl _) (by trivial) hnA)
theorem wstep_eq (c a : Int) (v : Txw) : wstep c a v = (tag 2 [laidN c, laidN a, v]).take 16 := by unfold wstep; rfl
theorem secretT_eq (s : Txw) (l c : Int) : secretT s l c = (tag 3 [s, laidN l, laidN c]).take 16 := rfl
theorem step_fc {G : List (Nat × Array Value)} (hm : ShaIn G) (c a : Int) (v : Txw) (hv : v.length ≤ 140737488355264) : FP G 169 [.v (.int .i64 c), .v (.int .i64 a), sA v] [] (sA (wstep c a v)) [] := by
 have hin := in3_len (laidN c) (laidN a) v 2
 rw [laidN_length, laidN_length] at hin
 have hval := value_fc hm 2 [laidN c, laidN a, v] (by omega)
 rw [← wstep_eq] at hval
 refine FC.of_wp [6] Tryz.func169 rfl rfl rfl rfl (by trivial) (by trivial) (Nat.le_of_ble_eq_true rfl) ?_
 intro A hG hnA hAB
 unfold start
 refine WP.rs hG (Ch.asg rfl rfl (Ch.nil (WP.rs hG (Ch.mv rfl rfl (Ch.callP (laid_fc c) gdN (.cons rfl .nil) (.c (.rfl _) .n) (by rfl) rfl ?_)))))
 refine Ch.mv rfl rfl (Ch.callP (laid_fc a) gdN (.cons rfl .nil) (.c (.rfl _) .n) (by rfl) rfl ?_)
 refine Ch.mv rfl rfl (Ch.pup gdN (by repeat (first | exact EvP.nil | (apply EvP.cons; exact rfl))) (OpS.slice1 (ys := ([laidN c, laidN a, v] : List Txw).map sA) rfl rfl rfl rfl rfl rfl (by rfl) rfl (by rfl)) rfl ?_)
 refine Ch.callP (hval) gdN (.cons rfl (.cons rfl .nil)) (.c (.rfl _) (.c (.rfl _) .n)) (by rfl) rfl ?_
 refine Ch.asg rfl rfl (Ch.nil ?_)
 refine WP.ret (Ret.one rfl (by exact .rfl _) (by trivial) hnA)
theorem walk_fc {G : List (Nat × Array Value)} (hm : ShaIn G) (c a b : Int) (v : Txw) (hv : v.length ≤ 140737488355264) (ha : -9223372036854775808 ≤ a ∧ a ≤ 9223372036854775807) (hb : -9223372036854775808 ≤ b ∧ b ≤ 9223372036854775807) :
  FP G 152 [.v (.int .i64 c), .v (.int .i64 a), .v (.int .i64 b), sA v] [] (sA (walkT c a b v)) [] := by
 refine FC.of_wp [8] Tryz.func152 rfl rfl rfl rfl (by trivial) (by trivial) (Nat.le_of_ble_eq_true rfl) ?_
 intro A hG hnA hAB
 unfold start
 refine WP.rs hG (Ch.asg rfl rfl (Ch.nil (WP.seq ?_)))
 rcases three_step a b with hq | hq | hq
 ·
  have hs := hq
  refine WP.rs hG (Ch.mv rfl rfl (Ch.p2 rfl rfl (OpS.int (v' := .bool true) rfl (by (simp [hs]; done))) rfl ?_))
  refine Ch.mv rfl rfl (Ch.skU (gdF rfl rfl rfl) rfl (Ch.skU (gdF rfl rfl rfl) rfl (Ch.p2 rfl rfl (OpS.pickT) rfl (Ch.nil (WP.cond_true rfl (WP.rs hG (Ch.mv rfl rfl (Ch.asg rfl rfl (Ch.nil ?_)))))))))
  exact WP.ret (Ret.one rfl (.of_eq (by rw [walkT_no (.inl hs)]; rfl)) trivial hnA)
 ·
  have hs := hq
  refine WP.rs hG (Ch.mv rfl rfl (Ch.p2 rfl rfl (OpS.int (v' := .bool false) rfl (by (simp [hs]; done))) rfl ?_))
  refine Ch.mv rfl rfl (Ch.gm rfl rfl rfl rfl (Ch.g2 rfl rfl rfl rfl (OpS.int (v' := .bool true) rfl (by (simp [hs]; done))) rfl ?_))
  refine Ch.p2 rfl rfl (OpS.pickF) rfl (Ch.nil (WP.cond_true rfl (WP.rs hG (Ch.mv rfl rfl (Ch.asg rfl rfl (Ch.nil ?_))))))
  exact WP.ret (Ret.one rfl (.of_eq (by rw [walkT_no (.inr hs.2)]; rfl)) trivial hnA)
 have hs := hq
 refine WP.rs hG (Ch.mv rfl rfl (Ch.p2 rfl rfl (OpS.int (v' := .bool false) rfl (by (simp [hs]; done))) rfl ?_))
 refine Ch.mv rfl rfl (Ch.gm rfl rfl rfl rfl (Ch.g2 rfl rfl rfl rfl (OpS.int (v' := .bool false) rfl (by (simp [hs]; done))) rfl ?_))
 refine Ch.p2 rfl rfl (OpS.pickF) rfl (Ch.nil (WP.cond_false rfl (WP.skip (WP.seq (WP.block ?_)))))
 refine WP.loop (fun k σ => ∃ (x : Int) (y : Txw), (k = (b - x).toNat ∧ 0 ≤ x ∧ y.length ≤ 140737488355264 ∧ walkT c x b y = walkT c a b v) ∧ σ = ⟨26, ls [(0, .v (.int .i64 c)), (1, .v (.int .i64 x)), (2, .v (.int .i64 b)), (3, sA y)], lh [], blt 0⟩) ((b - a).toNat) (Ent.of [] ?_ ?_ ?_ ?_).se ⟨a, v, ⟨rfl, hs.1, hv, rfl⟩, rfl⟩ ?_
 · exact na_of hnA rfl
 · (repeat (first | exact trivial | (refine ⟨⟨(by trivial), _, rfl, .rfl _⟩, ?_⟩)))
 · (repeat (first | exact trivial | (refine ⟨⟨rfl, (by first | trivial | (simp; first | done | fail) | exact ⟨trivial, hbel _⟩), (by first | rfl | (simp; first | done | fail))⟩, ?_⟩)))
 · exact nd_of rfl
 rintro k σ ⟨x, y, ⟨hk, hx, hy, hw⟩, rfl⟩
 refine WP.seq (WP.rs hG (Ch.mv rfl rfl (Ch.mv rfl rfl (Ch.p2 rfl rfl (OpS.int rfl (by exact rfl)) rfl ?_))))
 refine Ch.nil ?_
 refine WP.cond rfl ?_ ?_
 ·
  intro ht
  have ht' := of_decide_eq_true ht
  rw [walkT_go hx ht' hs.2] at hw
  have hsl := wstep_length c x y
  refine WP.skip (WP.seq (WP.block (WP.rg hG (Ch.mv rfl rfl (Ch.mv rfl rfl (Ch.mv rfl rfl (Ch.callP (step_fc hm c x y hy) gdN (.cons rfl (.cons rfl (.cons rfl .nil))) (.c (.rfl _) (.c (.rfl _) (.c (.rfl _) .n))) (by rfl) rfl ?_)))))))
  refine Ch.asg rfl rfl (Ch.nil (WP.rg hG (Ch.mv rfl rfl (Ch.p2 rfl rfl (OpS.int rfl (by exact wr64 (by omega))) rfl ?_))))
  refine Ch.asg rfl rfl (Ch.nil ?_)
  refine ⟨k - 1, _, by omega, (Ent.of [] ?_ ?_ ?_ ?_).se, x + 1, wstep c x y, ⟨by omega, by omega, by rw [hsl]; decide, hw⟩, rfl⟩
  · exact na_of hnA rfl
  · (repeat (first | exact trivial | (refine ⟨⟨(by trivial), _, rfl, .rfl _⟩, ?_⟩)))
  · (repeat (first | exact trivial | (refine ⟨⟨rfl, (by first | trivial | (simp; first | done | fail) | exact ⟨trivial, hbel _⟩), (by first | rfl | (simp; first | done | fail))⟩, ?_⟩)))
  exact nd_of rfl
 intro ht
 have ht' := of_decide_eq_false ht
 rw [walkT_end (by omega)] at hw
 refine WP.exit (WP.rs hG (Ch.mv rfl rfl (Ch.asg rfl rfl (Ch.nil ?_))))
 exact WP.ret (Ret.one rfl (by rw [← hw]; exact .rfl _) trivial hnA)
theorem rstep_fc {G : List (Nat × Array Value)} (hr : RefIn G) (c a : Int) (v : Txw) (hv : v.length ≤ 140737488355264) : FP G 147 [.v (.int .i64 c), .v (.int .i64 a), sA v] [] (sA (wstep c a v)) [] := by
 have hin := in3_len (laidN c) (laidN a) v 2
 rw [laidN_length, laidN_length] at hin
 have htl := tag_length 2 [laidN c, laidN a, v]
 have hval := rtag_fc hr.1 hr.2 2 [laidN c, laidN a, v] (by omega)
 refine FC.of_wp [6] Tryz.func147 rfl rfl rfl rfl (by trivial) (by trivial) (Nat.le_of_ble_eq_true rfl) ?_
 intro A hG hnA hAB
 unfold start
 refine WP.rs hG (Ch.asg rfl rfl (Ch.nil (WP.rs hG (Ch.mv rfl rfl (Ch.callP (rlaid_fc c) gdN (.cons rfl .nil) (.c (.rfl _) .n) (by rfl) rfl ?_)))))
 refine Ch.mv rfl rfl (Ch.callP (rlaid_fc a) gdN (.cons rfl .nil) (.c (.rfl _) .n) (by rfl) rfl ?_)
 refine Ch.mv rfl rfl (Ch.pup gdN (by repeat (first | exact EvP.nil | (apply EvP.cons; exact rfl))) (OpS.slice1 (ys := ([laidN c, laidN a, v] : List Txw).map sA) rfl rfl rfl rfl rfl rfl (by rfl) rfl (by rfl)) rfl ?_)
 refine Ch.callP (hval) gdN (.cons rfl (.cons rfl .nil)) (.c (.rfl _) (.c (.rfl _) .n)) (by rfl) rfl ?_
 refine Ch.p2 rfl rfl (OpS.sliceSh rfl (by with_reducible exact tnL _) (by omega) (by omega)) rfl ?_
 refine Ch.asg rfl rfl (Ch.nil ?_)
 exact WP.ret (Ret.one rfl (.of_eq (by rw [wstep_eq]; rfl)) trivial hnA)
theorem rwalk_fc {G : List (Nat × Array Value)} (hr : RefIn G) (c a b : Int) (v : Txw) (hv : v.length ≤ 140737488355264) (ha : -9223372036854775808 ≤ a ∧ a ≤ 9223372036854775807) (hb : -9223372036854775808 ≤ b ∧ b ≤ 9223372036854775807) :
  FP G 112 [.v (.int .i64 c), .v (.int .i64 a), .v (.int .i64 b), sA v] [] (sA (walkT c a b v)) [] := by
 refine FC.of_wp [8] Tryz.func112 rfl rfl rfl rfl (by trivial) (by trivial) (Nat.le_of_ble_eq_true rfl) ?_
 intro A hG hnA hAB
 unfold start
 refine WP.rs hG (Ch.asg rfl rfl (Ch.nil (WP.seq ?_)))
 rcases three_step a b with hq | hq | hq
 ·
  have hs := hq
  refine WP.rs hG (Ch.mv rfl rfl (Ch.p2 rfl rfl (OpS.int (v' := .bool true) rfl (by (simp [hs]; done))) rfl ?_))
  refine Ch.mv rfl rfl (Ch.skU (gdF rfl rfl rfl) rfl (Ch.skU (gdF rfl rfl rfl) rfl (Ch.p2 rfl rfl (OpS.pickT) rfl (Ch.nil (WP.cond_true rfl (WP.rs hG (Ch.mv rfl rfl (Ch.asg rfl rfl (Ch.nil ?_)))))))))
  exact WP.ret (Ret.one rfl (.of_eq (by rw [walkT_no (.inl hs)]; rfl)) trivial hnA)
 ·
  have hs := hq
  refine WP.rs hG (Ch.mv rfl rfl (Ch.p2 rfl rfl (OpS.int (v' := .bool false) rfl (by (simp [hs]; done))) rfl ?_))
  refine Ch.mv rfl rfl (Ch.gm rfl rfl rfl rfl (Ch.g2 rfl rfl rfl rfl (OpS.int (v' := .bool true) rfl (by (simp [hs]; done))) rfl ?_))
  refine Ch.p2 rfl rfl (OpS.pickF) rfl (Ch.nil (WP.cond_true rfl (WP.rs hG (Ch.mv rfl rfl (Ch.asg rfl rfl (Ch.nil ?_))))))
  exact WP.ret (Ret.one rfl (.of_eq (by rw [walkT_no (.inr hs.2)]; rfl)) trivial hnA)
 have hs := hq
 refine WP.rs hG (Ch.mv rfl rfl (Ch.p2 rfl rfl (OpS.int (v' := .bool false) rfl (by (simp [hs]; done))) rfl ?_))
 refine Ch.mv rfl rfl (Ch.gm rfl rfl rfl rfl (Ch.g2 rfl rfl rfl rfl (OpS.int (v' := .bool false) rfl (by (simp [hs]; done))) rfl ?_))
 refine Ch.p2 rfl rfl (OpS.pickF) rfl (Ch.nil (WP.cond_false rfl (WP.skip (WP.seq (WP.rs hG (Ch.mv rfl rfl (Ch.asg rfl rfl (Ch.nil (WP.block ?_)))))))))
 refine WP.loop (fun k σ => ∃ (x : Int) (y : Txw), (k = (b - x).toNat ∧ 0 ≤ x ∧ y.length ≤ 140737488355264 ∧ walkT c x b y = walkT c a b v) ∧ σ = ⟨28, ls [(0, .v (.int .i64 c)), (9, .v (.int .i64 x)), (2, .v (.int .i64 b)), (3, sA y)], lh [], blt 0⟩) ((b - a).toNat) (Ent.of [] ?_ ?_ ?_ ?_).se ⟨a, v, ⟨rfl, hs.1, hv, rfl⟩, rfl⟩ ?_
 · exact na_of hnA rfl
 · (repeat (first | exact trivial | (refine ⟨⟨(by trivial), _, rfl, .rfl _⟩, ?_⟩)))
 · (repeat (first | exact trivial | (refine ⟨⟨rfl, (by first | trivial | (simp; first | done | fail) | exact ⟨trivial, hbel _⟩), (by first | rfl | (simp; first | done | fail))⟩, ?_⟩)))
 · exact nd_of rfl
 rintro k σ ⟨x, y, ⟨hk, hx, hy, hw⟩, rfl⟩
 refine WP.seq (WP.rs hG (Ch.mv rfl rfl (Ch.mv rfl rfl (Ch.p2 rfl rfl (OpS.int rfl (by exact rfl)) rfl ?_))))
 refine Ch.nil ?_
 refine WP.cond rfl ?_ ?_
 ·
  intro ht
  have ht' := of_decide_eq_true ht
  rw [walkT_go hx ht' hs.2] at hw
  have hsl := wstep_length c x y
  refine WP.skip (WP.seq (WP.block (WP.rg hG (Ch.mv rfl rfl (Ch.mv rfl rfl (Ch.mv rfl rfl (Ch.callP (rstep_fc hr c x y hy) gdN (.cons rfl (.cons rfl (.cons rfl .nil))) (.c (.rfl _) (.c (.rfl _) (.c (.rfl _) .n))) (by rfl) rfl ?_)))))))
  refine Ch.asg rfl rfl (Ch.nil (WP.rg hG (Ch.mv rfl rfl (Ch.p2 rfl rfl (OpS.int rfl (by exact wr64 (by omega))) rfl ?_))))
  refine Ch.asg rfl rfl (Ch.nil ?_)
  refine ⟨k - 1, _, by omega, (Ent.of [] ?_ ?_ ?_ ?_).se, x + 1, wstep c x y, ⟨by omega, by omega, by rw [hsl]; decide, hw⟩, rfl⟩
  · exact na_of hnA rfl
  · (repeat (first | exact trivial | (refine ⟨⟨(by trivial), _, rfl, .rfl _⟩, ?_⟩)))
  · (repeat (first | exact trivial | (refine ⟨⟨rfl, (by first | trivial | (simp; first | done | fail) | exact ⟨trivial, hbel _⟩), (by first | rfl | (simp; first | done | fail))⟩, ?_⟩)))
  exact nd_of rfl
 intro ht
 have ht' := of_decide_eq_false ht
 rw [walkT_end (by omega)] at hw
 refine WP.exit (WP.rs hG (Ch.mv rfl rfl (Ch.asg rfl rfl (Ch.nil ?_))))
 exact WP.ret (Ret.one rfl (by rw [← hw]; exact .rfl _) trivial hnA)
theorem rsecret_fc {G : List (Nat × Array Value)} (hr : RefIn G) (s : Txw) (l c : Int) (hv : s.length ≤ 140737488355264) : FP G 113 [sA s, .v (.int .i64 l), .v (.int .i64 c)] [] (sA (secretT s l c)) [] := by
 have hin := in3_len s (laidN l) (laidN c) 3
 rw [laidN_length, laidN_length] at hin
 have htl := tag_length 3 [s, laidN l, laidN c]
 have hval := rtag_fc hr.1 hr.2 3 [s, laidN l, laidN c] (by omega)
 refine FC.of_wp [6] Tryz.func113 rfl rfl rfl rfl (by trivial) (by trivial) (Nat.le_of_ble_eq_true rfl) ?_
 intro A hG hnA hAB
 unfold start
 refine WP.rs hG (Ch.asg rfl rfl (Ch.nil (WP.rs hG (Ch.mv rfl rfl (Ch.mv rfl rfl (Ch.callP (rlaid_fc l) gdN (.cons rfl .nil) (.c (.rfl _) .n) (by rfl) rfl ?_))))))
 refine Ch.mv rfl rfl (Ch.callP (rlaid_fc c) gdN (.cons rfl .nil) (.c (.rfl _) .n) (by rfl) rfl ?_)
 refine Ch.pup gdN (by repeat (first | exact EvP.nil | (apply EvP.cons; exact rfl))) (OpS.slice1 (ys := ([s, laidN l, laidN c] : List Txw).map sA) rfl rfl rfl rfl rfl rfl (by rfl) rfl (by rfl)) rfl ?_
 refine Ch.callP (hval) gdN (.cons rfl (.cons rfl .nil)) (.c (.rfl _) (.c (.rfl _) .n)) (by rfl) rfl ?_
 refine Ch.p2 rfl rfl (OpS.sliceSh rfl (by with_reducible exact tnL _) (by omega) (by omega)) rfl ?_
 refine Ch.asg rfl rfl (Ch.nil ?_)
 exact WP.ret (Ret.one rfl (.of_eq (by rw [secretT_eq]; rfl)) trivial hnA)
theorem dgs_succ (d : Txw) (m : Nat) : dgs d (m + 1) = dgs d m ++ [hiD d m, loD d m] := rfl
theorem lackD_succ (d : Txw) (m : Nat) : lackD d (m + 1) = lackD d m + (30 - hiD d m - loD d m) := rfl
theorem hi_eq (d : Txw) (m : Nat) : (U8 (nth d m)) / 16 = (hiD d m : Int) := by unfold U8 hiD; omega
theorem lo_eq (d : Txw) (m : Nat) : (U8 (nth d m)) % 16 = (loD d m : Int) := by unfold U8 loD; omega
attribute [local irreducible] hiD loD dgs lackD
theorem digits_fc0 {G : List (Nat × Array Value)} (hm : ShaIn G) (msg : Txw) (hv : msg.length ≤ 140737488355264) : FP G 166 [sA msg] [] (.sl (some 0) (digitsT msg).length ((digitsT msg).map nA)) [some (.tip 3 1 (digitsT msg).length)] := by
 have hin := in1_len msg 1
 have htag := tag_fc hm 1 [msg] (by omega)
 have htl := tag_length 1 [msg]
 obtain ⟨d, hd⟩ : ∃ d, d = tag 1 [msg] := ⟨_, rfl⟩
 rw [← hd] at htag htl
 have hdt : digitsT msg = dgs d 4 ++ [lackD d 4 / 16, lackD d 4 % 16] := by rw [hd]; rfl
 have hdl := dgs_length d 4
 refine FC.of_wp [2] Tryz.func166 rfl rfl rfl rfl (by trivial) (by trivial) (Nat.le_of_ble_eq_true rfl) ?_
 intro A hG hnA hAB
 unfold start
 refine WP.rs hG (Ch.asg rfl rfl (Ch.nil (WP.rs hG (Ch.al gdN (by exact ⟨rfl, rfl, trivial⟩) (OpS.makeTip (n := 10) (bb := 8) 0 rfl rfl rfl rfl rfl rfl rfl (by decide) (by decide)) (by exact trivial) (by exact ⟨rfl, trivial⟩) rfl ?_))))
 refine Ch.asg rfl rfl (Ch.nil (WP.rs hG (Ch.asg rfl rfl (Ch.nil (WP.rs hG (Ch.mv rfl rfl (Ch.pup gdN (by repeat (first | exact EvP.nil | (apply EvP.cons; exact rfl))) (OpS.slice1 (ys := ([msg] : List Txw).map sA) rfl rfl rfl rfl rfl rfl (by rfl) rfl (by rfl)) rfl ?_)))))))
 refine Ch.callP (htag) gdN (.cons rfl (.cons rfl .nil)) (.c (.rfl _) (.c (.rfl _) .n)) (by rfl) rfl ?_
 refine Ch.asg rfl rfl (Ch.nil (WP.seq (WP.rs hG (Ch.mv rfl rfl (Ch.nil (WP.block ?_))))))
 refine WP.loop (fun k σ => ∃ m : Nat, m + k = 4 ∧ σ = ⟨45, ls [(3, .sl (some 0) (2 * m) ((dgs d m).map nA)), (4, .v (.int .i64 ((lackD d m : Nat) : Int))), (5, sA d), (13, .v (.int .i64 (m : Int)))], lh [(0, .tip 3 1 (2 * m))], blt 1⟩) (4) (Ent.of [] ?_ ?_ ?_ ?_).se ⟨0, by omega, rfl⟩ ?_
 · exact na_of hnA rfl
 · (repeat (first | exact trivial | (refine ⟨⟨(by first | trivial | (simp; first | done | fail)), _, rfl, (by first | exact .rfl _ | exact .of_eq (by simp [dgs, lackD]; first | done | fail))⟩, ?_⟩)))
 · (repeat (first | exact trivial | (refine ⟨⟨rfl, (by trivial), (by rfl)⟩, ?_⟩)))
 · exact nd_of rfl
 rintro k σ ⟨m, hm', rfl⟩
 have hs1 := dgs_succ d m
 have hs2 := lackD_succ d m
 have hl1 := dgs_length d m
 have hl2 := lackD_le d m
 have hh := hi_eq d m
 have hlo := lo_eq d m
 have hb1 := hiD_lt d m
 have hb2 := loD_lt d m
 have hu := u8_bd (nth d m)
 have hsum : ((lackD d m : Nat) : Int) + (30 - (hiD d m : Int) - (loD d m : Int)) = ((lackD d (m + 1) : Nat) : Int) := by rw [hs2]; omega
 refine WP.rs hG (Ch.p2 rfl rfl (OpS.int rfl (by exact rfl)) rfl ?_)
 refine Ch.nil (WP.seq ?_)
 refine WP.cond rfl ?_ ?_
 ·
  intro ht
  have ht' := of_decide_eq_true ht
  refine WP.skip (WP.seq (WP.block (WP.rs hG (Ch.mv rfl rfl (Ch.asg rfl rfl (Ch.nil (WP.rsD (by kernel_rfl) hG (Ch.mv rfl rfl (Ch.mv rfl rfl ?_)))))))))
  refine Ch.p2 rfl rfl (OpS.indexS rfl (by with_reducible exact Int.toNat_natCast _) (by omega) (by omega)) rfl ?_
  refine Ch.p1 rfl (OpS.conv (k := .i64) rfl rfl (cv_i64_u8 (nth d m))) rfl (Ch.p2 rfl rfl (OpS.quo (by omega) (by omega) (by omega)) rfl ?_)
  refine Ch.mv rfl rfl (Ch.mv rfl rfl (Ch.p2 rfl rfl (OpS.indexS rfl (by with_reducible exact Int.toNat_natCast _) (by omega) (by omega)) rfl ?_))
  refine Ch.p1 rfl (OpS.conv (k := .i64) rfl rfl (cv_i64_u8 (nth d m))) rfl (Ch.p2 rfl rfl (OpS.rem (by omega) (by omega)) rfl ?_)
  refine Ch.asg rfl rfl (Ch.asg rfl rfl (Ch.nilD ?_ (by kernel_rfl)))
  rw [hh, hlo]
  refine WP.rs hG (Ch.mv rfl rfl (Ch.mv rfl rfl (Ch.mv rfl rfl (Ch.pup gdN (by repeat (first | exact EvP.nil | (apply EvP.cons; exact rfl))) (OpS.slice1 (ys := ([hiD d m, loD d m] : List Nat).map nA) rfl rfl rfl rfl rfl rfl (by rfl) rfl (by rfl)) rfl ?_))))
  refine Ch.a2 rfl rfl (OpS.append (sz := 1) (bb := 8) 1 rfl rfl rfl rfl rfl (by decide) (SrcA.sl rfl (by simp)) (by (simp; assumption)) (by simp) (by unfold maxLen; omega) rfl (by omega)) rfl rfl rfl ?_
  refine Ch.asg rfl rfl (Ch.nil (WP.rg hG (Ch.mv rfl rfl (Ch.mv rfl rfl (Ch.p2 rfl rfl (OpS.int rfl (by exact wr64 (by omega))) rfl ?_)))))
  refine Ch.mv rfl rfl (Ch.p2 rfl rfl (OpS.int rfl (by exact wr64 (by omega))) rfl ?_)
  refine Ch.p2 rfl rfl (OpS.int rfl (by exact wr64 (by omega))) rfl ?_
  refine Ch.asg rfl rfl (Ch.nil (WP.rg hG (Ch.p2 rfl rfl (OpS.int rfl (by exact wr64 (by omega))) rfl ?_)))
  refine Ch.mv rfl rfl (Ch.nil ?_)
  refine ⟨k - 1, _, by omega, (Ent.of [1] ?_ ?_ ?_ ?_).se, m + 1, by omega, rfl⟩
  · exact na_of hnA rfl
  · (repeat (first | exact trivial | (refine ⟨⟨(by first | trivial | (simp; first | done | fail)), _, rfl, (by first | exact .rfl _ | exact .of_eq (by simp [hs1, hsum, Nat.mul_add]; first | done | fail))⟩, ?_⟩)))
  · (repeat (first | exact trivial | (refine ⟨⟨rfl, (by trivial), (by rfl)⟩, ?_⟩)))
  exact nd_of rfl
 intro ht
 have ht' := of_decide_eq_false ht
 obtain rfl : m = 4 := by omega
 refine WP.exit (WP.rs hG (Ch.mv rfl rfl (Ch.mv rfl rfl (Ch.p2 rfl rfl (OpS.quo (by omega) (by omega) (by omega)) rfl ?_))))
 refine Ch.mv rfl rfl (Ch.p2 rfl rfl (OpS.rem (by omega) (by omega)) rfl ?_)
 refine Ch.pup gdN (by repeat (first | exact EvP.nil | (apply EvP.cons; exact rfl))) (OpS.slice1 (ys := ([lackD d 4 / 16, lackD d 4 % 16] : List Nat).map nA) rfl rfl rfl rfl rfl rfl (by rfl) rfl (by rfl)) rfl ?_
 refine Ch.a2 rfl rfl (OpS.append (sz := 1) (bb := 8) 1 rfl rfl rfl rfl rfl (by decide) (SrcA.sl rfl (by simp)) (by (simp; assumption)) (by simp) (by unfold maxLen; omega) rfl (by omega)) rfl rfl rfl ?_
 refine Ch.asg rfl rfl (Ch.nil ?_)
 rw [hdt]
 exact WP.ret (Ret.row 1 rfl (.of_eq (by simp [hdl])) (by simp) (by simp [hdl]) trivial hnA)
theorem digits_fc {G : List (Nat × Array Value)} (hm : ShaIn G) (msg : Txw) (hv : msg.length ≤ 140737488355264) : FP G 166 [sA msg] [] (.sl none (digitsT msg).length ((digitsT msg).map nA)) [] :=
 (digits_fc0 hm msg hv).shut (belL_n _ _) (renL_n _ _)
end Go.Proofs.YtpnbpcopdckgpaaGreatDoor.E
namespace Go.Proofs.YtpnbpcopdckgpaaGreatDoor.E
open Go Go.RowKit V
set_option maxRecDepth 4000
set_option maxRecDepth 4000
attribute [local irreducible] sum tag input beS
theorem inp3_len (d : UInt8) (a b c : Txt) : (input d [a, b, c]).length = 13 + a.length + b.length + c.length := by
 unfold input
 simp only [List.flatMap_cons, List.flatMap_nil, List.length_cons, List.length_append, List.length_nil, be4]
 omega
theorem inp0_len (d : UInt8) : (input d []).length = 1 := by
 unfold input
 rfl
section
variable {G : List (Nat × Array Value)}
theorem rID_fc (hm : ShaIn G) (v : UInt64) (pa pl : Txt) (hl : pa.length + pl.length ≤ 140737488355300) : FP G 11 [.v (.int .u64 (U64 v)), sA pa, sA pl] [] (sA (idT v pa pl)) [] := by
 have hbl := beS_length v 8
 have hw := wNum_fc (G := G) [] v (by decide)
 have hb := wBytes_fc (G := G) (beS v 8)
 have ht := tag_fc hm 12 [beS v 8, pa, pl] (by rw [inp3_len, hbl]; omega)
 refine FC.of_wp [6] Tryz.func11 rfl rfl rfl rfl (by trivial) (by trivial) (Nat.le_of_ble_eq_true rfl) ?_
 intro A hG hnA hAB
 unfold start
 refine WP.rs hG (Ch.asg rfl rfl (Ch.nil (WP.rs hG ?_)))
 refine Ch.cH (newWriter_fc) [] 0 gdN .nil .n rfl (by refine ⟨?_, ?_, ?_, ?_⟩ <;> first | ((conv => lhs; simp only [nrmA, Nat.reduceAdd]); all_goals rfl) | rfl) (by exact trivial) (by exact ⟨rfl, rfl, trivial⟩) rfl ?_
 refine Ch.asg rfl rfl (Ch.nil (WP.rs hG (Ch.mv rfl rfl (Ch.mv rfl rfl ?_))))
 refine Ch.cH (hw) [0,1] 2 gdN (.cons rfl (.cons rfl .nil)) (.c (.rfl _) (.c (.rfl _) .n)) rfl (by refine ⟨?_, ?_, ?_, ?_⟩ <;> first | ((conv => lhs; simp only [nrmA, Nat.reduceAdd]); all_goals rfl) | rfl) (by exact ⟨rfl, rfl, trivial⟩) (by exact ⟨rfl, trivial⟩) rfl ?_
 refine Ch.nil (WP.rs hG (Ch.mv rfl rfl ?_))
 refine Ch.cH (hb) [0,2] 3 gdN (.cons rfl .nil) (.c (.rfl _) .n) rfl (by refine ⟨?_, ?_, ?_, ?_⟩ <;> first | ((conv => lhs; simp only [nrmA, Nat.reduceAdd]); all_goals rfl) | rfl) (by exact ⟨rfl, rfl, trivial⟩) (by exact trivial) rfl ?_
 refine Ch.mv rfl rfl (Ch.mv rfl rfl (Ch.pup gdN (by repeat (first | exact EvP.nil | (apply EvP.cons; exact rfl))) (OpS.slice1 (ys := ([beS v 8, pa, pl] : List Txt).map sA) rfl rfl rfl rfl rfl rfl (by rfl) rfl (by rfl)) rfl ?_))
 refine Ch.callP (ht) gdN (.cons rfl (.cons rfl .nil)) (.c (.rfl _) (.c (.rfl _) .n)) (by rfl) rfl ?_
 refine Ch.asg rfl rfl (Ch.nil ?_)
 exact WP.ret (Ret.one rfl (.of_eq rfl) trivial hnA)
theorem rFirst_fc (hm : ShaIn G) : FP G 13 [] [] (sA firstT) [] := by
 have ht := tag_fc hm 12 [] (by rw [inp0_len]; decide)
 refine FC.of_wp [0] Tryz.func13 rfl rfl rfl rfl (by trivial) (by trivial) (Nat.le_of_ble_eq_true rfl) ?_
 intro A hG hnA hAB
 unfold start
 refine WP.rs hG (Ch.asg rfl rfl (Ch.nil (WP.rs hG (Ch.callP (ht) gdN (EvL.cons rfl (EvL.cons rfl EvL.nil)) ((by exact (And.intro (.rfl _) (And.intro .nil trivial)))) (by rfl) rfl ?_))))
 refine Ch.asg rfl rfl (Ch.nil ?_)
 exact WP.ret (Ret.one rfl (.of_eq rfl) trivial hnA)
theorem rLead_fc (v : UInt64) : FP G 15 [.v (.int .u64 (U64 v))] [] (.v (.int .i64 (leadT v : Int))) [] := by
 have hu : U64 v = (v.toNat : Int) := rfl
 have hl := leadT_lt v
 have hlt := v.toNat_lt
 have h3 : U64 v / 4 % 4 = (leadT v : Int) := by rw [hu]; unfold leadT; omega
 refine FC.of_wp [2] Tryz.func15 rfl rfl rfl rfl (by trivial) (by trivial) (Nat.le_of_ble_eq_true rfl) ?_
 intro A hG hnA hAB
 unfold start
 refine WP.rs hG (Ch.asg rfl rfl (Ch.nil (WP.rs hG (Ch.mv rfl rfl (Ch.p2 rfl rfl (OpS.quoU (by omega) (by omega) (by omega)) rfl ?_)))))
 refine Ch.p2 rfl rfl (OpS.rem (by omega) (by omega)) rfl ?_
 refine Ch.p1 rfl (OpS.conv (v := .int .i64 (leadT v : Int)) rfl rfl (by rw [h3]; exact wr64 (by omega))) rfl ?_
 refine Ch.asg rfl rfl (Ch.nil ?_)
 exact WP.ret (Ret.one rfl (.of_eq rfl) trivial hnA)
theorem rBallot_fc (s : Txt) (hl : s.length ≤ 140737488355328) : FP G 17 [sA s] [] (sA (ballotT s)) [] := by
 refine FC.of_wp [2] Tryz.func17 rfl rfl rfl rfl (by trivial) (by trivial) (Nat.le_of_ble_eq_true rfl) ?_
 intro A hG hnA hAB
 unfold start
 refine WP.rs hG (Ch.asg rfl rfl (Ch.nil (WP.rs hG (Ch.mv rfl rfl (Ch.p2 rfl rfl (OpS.strAdd (a := [86]) (by simp; omega)) rfl ?_)))))
 refine Ch.asg rfl rfl (Ch.nil ?_)
 exact WP.ret (Ret.one rfl (.of_eq rfl) trivial hnA)
theorem recStr_fc (v : UInt64) (n : Nat) (lk : Txt) (hl : lk.length ≤ 200) : FP G 138 [.agg [.v (.int .u64 (U64 v)), .v (.int .u64 (U64 (UInt64.ofNat n))), sA lk]] [] (sA (recT v n lk)) [] := by
 have h8 := beS_length v 8
 have h9 := beS_length (UInt64.ofNat n) 8
 have hw := wNum_fc (G := G) [] v (by decide)
 have hw2 := wNum_fc (G := G) (beS v 8) (UInt64.ofNat n) (by omega)
 have ht := wText_fc (G := G) (beS v 8 ++ beS (UInt64.ofNat n) 8) lk (by simp only [List.length_append]; omega) (by omega)
 have hb := wBytes_fc (G := G) (beS v 8 ++ beS (UInt64.ofNat n) 8 ++ beS (UInt64.ofNat lk.length) 4 ++ lk)
 have e : beS v 8 ++ beS (UInt64.ofNat n) 8 ++ beS (UInt64.ofNat lk.length) 4 ++ lk = recT v n lk := by
  unfold recT pieceT
  simp only [List.append_assoc]
 refine FC.of_wp [2] Tryz.func138 rfl rfl rfl rfl ⟨⟨trivial, trivial, trivial, trivial⟩, trivial⟩ trivial (Nat.le_of_ble_eq_true rfl) ?_
 intro A hG hnA hAB
 unfold start
 refine WP.rs hG (Ch.a1 rfl (OpS.box 0 rfl) rfl rfl (Ch.asg rfl rfl (Ch.nil (WP.rs hG ?_))))
 refine Ch.cH (newWriter_fc) [] 1 gdN .nil .n rfl (by refine ⟨?_, ?_, ?_, ?_⟩ <;> first | ((conv => lhs; simp only [nrmA, Nat.reduceAdd]); all_goals rfl) | rfl) (by exact trivial) (by exact ⟨rfl, rfl, trivial⟩) rfl ?_
 refine Ch.asg rfl rfl (Ch.nil (WP.rs hG (Ch.mv rfl rfl (Ch.p1 rfl (OpS.fieldAddr rfl rfl rfl rfl) rfl (Ch.q1 rfl (OpS.loadP rfl rfl rfl) rfl rfl ?_)))))
 refine Ch.cH (hw) [1,2] 3 gdN (.cons rfl (.cons rfl .nil)) (.c (.rfl _) (.c (.rfl _) .n)) rfl (by refine ⟨?_, ?_, ?_, ?_⟩ <;> first | ((conv => lhs; simp only [nrmA, Nat.reduceAdd]); all_goals rfl) | rfl) (by exact ⟨rfl, rfl, trivial⟩) (by exact ⟨rfl, trivial⟩) rfl ?_
 refine Ch.nil (WP.rs hG (Ch.mv rfl rfl (Ch.p1 rfl (OpS.fieldAddr rfl rfl rfl rfl) rfl (Ch.q1 rfl (OpS.loadP rfl rfl rfl) rfl rfl ?_))))
 refine Ch.cH (hw2) [1,3] 4 gdN (.cons rfl (.cons rfl .nil)) (.c (.rfl _) (.c (.rfl _) .n)) rfl (by refine ⟨?_, ?_, ?_, ?_⟩ <;> first | ((conv => lhs; simp only [nrmA, Nat.reduceAdd]); all_goals rfl) | rfl) (by exact ⟨rfl, rfl, trivial⟩) (by exact ⟨rfl, trivial⟩) rfl ?_
 refine Ch.nil (WP.rs hG (Ch.mv rfl rfl (Ch.p1 rfl (OpS.fieldAddr rfl rfl rfl rfl) rfl (Ch.q1 rfl (OpS.loadP rfl rfl rfl) rfl rfl ?_))))
 refine Ch.cH (ht) [1,4] 5 gdN (.cons rfl (.cons rfl .nil)) (.c (.rfl _) (.c (.rfl _) .n)) rfl (by refine ⟨?_, ?_, ?_, ?_⟩ <;> first | ((conv => lhs; simp only [nrmA, Nat.reduceAdd]); all_goals rfl) | rfl) (by exact ⟨rfl, rfl, trivial⟩) (by exact ⟨rfl, rfl, trivial⟩) rfl ?_
 refine Ch.nil (WP.rs hG (Ch.mv rfl rfl ?_))
 refine Ch.cH (hb) [1,6] 7 gdN (.cons rfl .nil) (.c (.rfl _) .n) rfl (by refine ⟨?_, ?_, ?_, ?_⟩ <;> first | ((conv => lhs; simp only [nrmA, Nat.reduceAdd]); all_goals rfl) | rfl) (by exact ⟨rfl, rfl, trivial⟩) (by exact trivial) rfl ?_
 refine Ch.asg rfl rfl (Ch.nil ?_)
 exact WP.ret (Ret.one rfl (.of_eq (by rw [e]; rfl)) trivial hnA)
end
end Go.Proofs.YtpnbpcopdckgpaaGreatDoor.E
