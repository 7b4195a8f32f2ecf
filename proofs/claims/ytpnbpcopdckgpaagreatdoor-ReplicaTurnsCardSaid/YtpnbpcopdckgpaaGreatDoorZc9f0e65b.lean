import Derived.Test.YtpnbpcopdckgpaaGreatDoorZb1546aba
import Derived.Test.YtpnbpcopdckgpaaGreatDoorZ77f8e77b
import Derived.Test.YtpnbpcopdckgpaaGreatDoorZfd707a12
namespace Go.Proofs.YtpnbpcopdckgpaaGreatDoor.V
def idT (v : UInt64) (pa pl : Txt) : Txt := tag 12 [beS v 8, pa, pl]
def firstT : Txt := tag 12 []
theorem idT_32 (v : UInt64) (pa pl : Txt) : (idT v pa pl).length = 32 := tag_length _ _
theorem firstT_32 : firstT.length = 32 := tag_length _ _
def leadT (v : UInt64) : Nat := v.toNat / 4 % 4
theorem leadT_lt (v : UInt64) : leadT v < 4 := Nat.mod_lt _ (by decide)
def ballotT (id : Txt) : Txt := 86 :: id
def recT (v : UInt64) (n : Nat) (lk : Txt) : Txt := beS v 8 ++ beS (UInt64.ofNat n) 8 ++ pieceT lk
theorem recT_length (v : UInt64) (n : Nat) (lk : Txt) : (recT v n lk).length = 20 + lk.length := by
 unfold recT
 rw [List.length_append, List.length_append, beS_length, beS_length, pieceT_length]
 omega
def rd1 (s : Txt) := rdNum (s, false)
def rd2 (s : Txt) := rdNum (rd1 s).2
def rd3 (s : Txt) := rdText 200 (rd2 s).2
def loadT (s : Txt) : UInt64 × UInt64 × Txt :=
 if (rd3 s).2.2 = true ∨ (rd3 s).2.1 ≠ [] ∨ 32 < (rd2 s).1.toNat then (0, 0, firstT) else ((rd1 s).1, (rd2 s).1, (rd3 s).1)
theorem rd_rec (v : UInt64) (n : Nat) (lk : Txt) (hl : lk.length ≤ 200) : rd1 (recT v n lk) = (v, beS (UInt64.ofNat n) 8 ++ pieceT lk, false) ∧ rd2 (recT v n lk) = (UInt64.ofNat n, pieceT lk, false) ∧ rd3 (recT v n lk) = (lk, [], false) := by
 have h1 : rd1 (recT v n lk) = (v, beS (UInt64.ofNat n) 8 ++ pieceT lk, false) := by
  unfold rd1 recT
  rw [List.append_assoc, rdNum_back]
 have h2 : rd2 (recT v n lk) = (UInt64.ofNat n, pieceT lk, false) := by
  unfold rd2
  rw [h1]
  exact rdNum_back _ _
 have h3 : rd3 (recT v n lk) = (lk, [], false) := by
  unfold rd3
  rw [h2]
  have := rdText_back 200 lk [] hl (by decide)
  rw [List.append_nil] at this
  exact this
 exact ⟨h1, h2, h3⟩
theorem load_rec (v : UInt64) (n : Nat) (lk : Txt) (hl : lk.length ≤ 200) (hn : n ≤ 32) : loadT (recT v n lk) = (v, UInt64.ofNat n, lk) := by
 obtain ⟨h1, h2, h3⟩ := rd_rec v n lk hl
 unfold loadT
 rw [h1, h2, h3]
 refine if_neg ?_
 simp only [UInt64.toNat_ofNat']
 rintro (h | h | h)
 · cases h
 · exact h rfl
 omega
theorem load_nil : loadT [] = (0, 0, firstT) := by
 unfold loadT
 refine if_pos (.inl ?_)
 rfl
def idxT : List Txt → Txt → Nat → Option Nat
 | [], _, _ => none
 | x :: l, id, i => if x = id then some i else idxT l id (i + 1)
theorem idxT_take (id : Txt) : ∀ (l : List Txt) (i j : Nat), (∀ k, k < j → l[k]? ≠ some id) → idxT l id i = idxT (l.drop j) id (i + j)
 | _, _, 0, _ => rfl
 | [], _, j + 1, _ => rfl
 | x :: l, i, j + 1, h => by
  have h0 : x ≠ id := fun e => h 0 (by omega) (by rw [e]; rfl)
  rw [idxT, if_neg h0, idxT_take id l (i + 1) j (fun k hk => by simpa using h (k + 1) (by omega)), List.drop_succ_cons, show i + 1 + j = i + (j + 1) by omega]
def findT (l : List Txt) (id : Txt) : Int := match idxT l id 0 with | some i => (i : Int) | none => -1
theorem findT_at {l : List Txt} {id : Txt} {j : Nat} (h : ∀ k, k < j → l[k]? ≠ some id) (hj : l[j]? = some id) : findT l id = (j : Int) := by
 unfold findT
 have hlt := (List.getElem?_eq_some_iff.1 hj).1
 rw [idxT_take id l 0 j h, List.drop_eq_getElem_cons hlt, idxT, if_pos (List.getElem?_eq_some_iff.1 hj).2, Nat.zero_add]
theorem findT_no {l : List Txt} {id : Txt} (h : ∀ k : Nat, l[k]? ≠ some id) : findT l id = -1 := by
 unfold findT
 rw [idxT_take id l 0 l.length (fun k _ => h k), List.drop_length]
 rfl
theorem idxT_cases (id : Txt) : ∀ (l : List Txt) (i : Nat), (idxT l id i = none ∧ ∀ k : Nat, l[k]? ≠ some id) ∨ ∃ k : Nat, idxT l id i = some (i + k) ∧ l[k]? = some id ∧ ∀ m, m < k → l[m]? ≠ some id
 | [], i => .inl ⟨rfl, fun k h => by simp at h⟩
 | x :: l, i => by
  by_cases hx : x = id
  · exact .inr ⟨0, by rw [idxT, if_pos hx]; rfl, by rw [hx]; rfl, fun m hm => absurd hm (Nat.not_lt_zero _)⟩
  have h0 : ∀ m : Nat, (x :: l)[m]? = some id → ∃ m', m = m' + 1 ∧ l[m']? = some id := by
   intro m hm
   cases m with
   | zero => simp at hm; exact absurd hm hx
   | succ m => exact ⟨m, rfl, by simpa using hm⟩
  rcases idxT_cases id l (i + 1) with ⟨h1, h2⟩ | ⟨k, h1, h2, h3⟩
  · exact .inl ⟨by rw [idxT, if_neg hx, h1], fun k hk => by obtain ⟨m', -, hm⟩ := h0 k hk; exact h2 _ hm⟩
  refine .inr ⟨k + 1, by rw [idxT, if_neg hx, h1, show i + 1 + k = i + (k + 1) by omega], by simpa using h2, fun m hm he => ?_⟩
  obtain ⟨m', rfl, hm'⟩ := h0 m he
  exact h3 m' (by omega) hm'
theorem findT_cases (l : List Txt) (id : Txt) : (findT l id = -1 ∧ ∀ k : Nat, l[k]? ≠ some id) ∨ ∃ j : Nat, findT l id = (j : Int) ∧ j < l.length ∧ l[j]? = some id := by
 rcases idxT_cases id l 0 with ⟨h1, h2⟩ | ⟨k, h1, h2, h3⟩
 · exact .inl ⟨by unfold findT; rw [h1], h2⟩
 exact .inr ⟨k, findT_at h3 h2, (List.getElem?_eq_some_iff.1 h2).1, h2⟩
end Go.Proofs.YtpnbpcopdckgpaaGreatDoor.V
namespace Go.Proofs.YtpnbpcopdckgpaaGreatDoor.E
open Go Go.RowKit V
set_option maxRecDepth 4000
theorem rowN_cells (x : UInt64) (many : Nat) : (((rowN x many many).map bA).drop 0).take many = (beS x many).map bA := by
 rw [rowN_all, List.drop_zero, List.take_of_length_le (by simp [beS_length])]
theorem rowN_start (x : UInt64) (many : Nat) : List.replicate many (.v (.int .u8 0) : AV) = (rowN x many 0).map bA := by
 rw [rowN_0, List.map_replicate]
 rfl
theorem setA (l : List UInt8) (i : Nat) (b : UInt8) : (l.map bA).set i (.v (.int .u8 (U8 b))) = (l.set i b).map bA := by
 rw [List.map_set]
 rfl
theorem number_fc {G : List (Nat × Array Value)} (x : UInt64) (many : Nat) (h8 : many ≤ 8) :
  FC Tryz.prog G 69 [.v (.int .u64 (U64 x)), .v (.int .i64 (many : Int))] [] (sA (beS x many)) [] := by
 have hx := x.toNat_lt
 refine FC.of_wp [4] Tryz.func69 rfl rfl rfl rfl (by trivial) (by trivial) (Nat.le_of_ble_eq_true rfl) ?_
 intro A hG hnA hAB
 unfold start
 refine WP.rs hG (Ch.asg rfl rfl (Ch.nil (WP.rs hG (Ch.mv rfl rfl (Ch.al gdN (by exact ⟨rfl, rfl, trivial⟩) (OpS.makeB (n := many) (bb := 1) 0 rfl rfl rfl rfl rfl rfl rfl rfl (by omega) (by unfold maxLen; omega)) (by exact trivial) (by exact ⟨rfl, trivial⟩) rfl ?_)))))
 refine Ch.asg rfl rfl (Ch.nil (WP.seq (WP.rs hG (Ch.mv rfl rfl (Ch.p2 rfl rfl (OpS.int rfl (by exact wr64 (by omega))) rfl ?_)))))
 refine Ch.asg rfl rfl (Ch.nil (WP.block ?_))
 refine WP.loop (fun k σ => ∃ (m y : Nat) (i : Int), (m + k = many ∧ i = (many : Int) - 1 - m ∧ y = x.toNat / 256 ^ m) ∧ σ = ⟨25, ls [(0, .v (.int .u64 (y : Int))), (5, .arr 0 0 many), (6, .v (.int .i64 i))], lh [(0, .cells 5 ((rowN x many m).map bA))], blt 1⟩) (many) (Ent.of [] ?_ ?_ ?_ ?_).se ⟨0, x.toNat, (many : Int) - 1, ⟨by omega, by omega, by simp⟩, rfl⟩ ?_
 · exact na_of hnA rfl
 · (repeat (first | exact trivial | (refine ⟨⟨(by trivial), _, rfl, .rfl _⟩, ?_⟩)))
 · (repeat (first | exact trivial | (refine ⟨⟨rfl, (by (simp; first | done | fail)), (by (simp [rowN_start x]; first | done | fail))⟩, ?_⟩)))
 · exact nd_of rfl
 rintro k σ ⟨m, y, i, ⟨hm, hi, hy⟩, rfl⟩
 have hy2 : y ≤ x.toNat := by rw [hy]; exact Nat.div_le_self _ _
 have hrl := rowN_length x many m (by omega)
 refine WP.seq (WP.rs hG (Ch.mv rfl rfl (Ch.p2 rfl rfl (OpS.int rfl (by exact rfl)) rfl ?_)))
 refine Ch.nil ?_
 refine WP.cond rfl ?_ ?_
 ·
  intro ht
  have ht' := of_decide_eq_true ht
  have hrs := rowN_set x many m (by omega)
  have hit : i.toNat = many - 1 - m := by omega
  rw [← hy, ← hit] at hrs
  refine WP.skip (WP.seq (WP.block (WP.rs hG (Ch.mv rfl rfl (Ch.mv rfl rfl (Ch.mv rfl rfl (Ch.p2 rfl rfl (OpS.rem (by omega) (by omega)) rfl ?_)))))))
  refine Ch.p1 rfl (OpS.conv (k := .u8) rfl rfl (cv_mod y)) rfl (Ch.p2 rfl rfl (OpS.indexAddrA (sz := 1) rfl rfl rfl (by omega) (by omega)) rfl ?_)
  refine Ch.ws rfl rfl (OpS.storeP (cs := (rowN x many m).map bA) rfl rfl rfl (by rw [List.length_map, hrl]; omega)) rfl ?_
  refine Ch.nil (WP.rg hG (Ch.mv rfl rfl (Ch.p2 rfl rfl (OpS.quoU (by omega) (by omega) (by omega)) rfl ?_)))
  refine Ch.asg rfl rfl (Ch.nil (WP.rg hG (Ch.mv rfl rfl (Ch.p2 rfl rfl (OpS.int rfl (by exact wr64 (by omega))) rfl ?_))))
  refine Ch.asg rfl rfl (Ch.nil ?_)
  refine ⟨k - 1, _, by omega, (Ent.of [0] ?_ ?_ ?_ ?_).se, m + 1, y / 256, i - 1, ⟨by omega, by omega, by rw [hy, Nat.pow_succ, ← Nat.div_div_eq_div_mul]⟩, rfl⟩
  · exact na_of hnA rfl
  · (repeat (first | exact trivial | (refine ⟨⟨(by trivial), _, rfl, .rfl _⟩, ?_⟩)))
  · (repeat (first | exact trivial | (refine ⟨⟨rfl, (by (simp; first | done | fail)), (by (simp [setA, hrs]; first | done | fail))⟩, ?_⟩)))
  exact nd_of rfl
 intro ht
 have ht' := of_decide_eq_false ht
 obtain rfl : m = many := by omega
 refine WP.exit (WP.rs hG (Ch.mv rfl rfl (Ch.q1 rfl (OpS.b2sA (l := beS x m) rfl rfl rfl (beS_length x m).symm (rowN_cells x m)) rfl rfl (Ch.asg rfl rfl (Ch.nil ?_)))))
 refine WP.ret (Ret.one rfl (by exact .rfl _) (by trivial) hnA)
abbrev rwH (l : List UInt8) : List (Option AO) := [some (.cells 118 [sA l])]
theorem rnewWriter_fc {G : List (Nat × Array Value)} : FC Tryz.prog G 43 [] [] (.ptr 0 0) (rwH []) := by
 refine FC.of_wp [0] Tryz.func43 rfl rfl rfl rfl (by trivial) (by trivial) (Nat.le_of_ble_eq_true rfl) ?_
 intro A hG hnA hAB
 unfold start
 refine WP.rs hG (Ch.asg rfl rfl (Ch.nil (WP.rs hG (Ch.pup gdN (by repeat (first | exact EvP.nil | (apply EvP.cons; exact rfl))) (OpS.build (cs := [sA []]) rfl rfl rfl rfl rfl (by rfl)) rfl ?_))))
 refine Ch.a1 rfl (OpS.box 0 rfl) rfl rfl (Ch.asg rfl rfl (Ch.nil (WP.ret ?_)))
 refine (Ret.of (rs := [0]) (vs := [.ptr 0 0]) (H' := rwH []) (res := .ptr 0 0) [0] ?_ ?_ rfl ?_ (by simp only [List.length_cons, List.length_nil]; decide) ?_).1
 · exact na_of hnA rfl
 · (repeat (first | exact trivial | (refine ⟨⟨(by trivial), _, rfl, .rfl _⟩, ?_⟩)))
 · (repeat (first | exact trivial | refine HFromL.skip ?_ | (refine ⟨⟨(by trivial), (by rfl)⟩, ?_⟩)))
 rfl
theorem rwNum_fc {G : List (Nat × Array Value)} (l : List UInt8) (x : UInt64) (hl : l.length ≤ 70368744177664) :
  FC Tryz.prog G 44 [.ptr 0 0, .v (.int .u64 (U64 x))] (rwH l) (.tup []) (rwH (l ++ beS x 8)) := by
 have hbl := beS_length x 8
 refine FC.of_wp [] Tryz.func44 rfl rfl rfl rfl ⟨rfl, trivial, trivial⟩ ⟨⟨trivial, trivial⟩, trivial⟩ (Nat.le_of_ble_eq_true rfl) ?_
 intro A hG hnA hAB
 unfold start
 refine WP.rgD (by kernel_rfl) hG (Ch.mv rfl rfl (Ch.mv rfl rfl (Ch.p1 rfl (OpS.nilCheckP) rfl (Ch.p1 rfl (OpS.fieldAddr rfl rfl rfl rfl) rfl (Ch.q1 rfl (OpS.loadP rfl rfl rfl) rfl rfl (Ch.mv rfl rfl (Ch.callP (number_fc x 8 (by decide)) gdN (.cons rfl (.cons rfl .nil)) (.c (.rfl _) (.c (.rfl _) .n)) (by rfl) rfl ?_)))))))
 refine Ch.p2 rfl rfl (OpS.strAdd (by omega)) rfl ?_
 refine Ch.p1 rfl (OpS.nilCheckP) rfl (Ch.p1 rfl (OpS.fieldAddr rfl rfl rfl rfl) rfl (Ch.ws rfl rfl (OpS.storeP (cs := [sA l]) rfl rfl rfl (by simp)) rfl ?_))
 refine Ch.nilD ?_ (by kernel_rfl)
 refine (Ret.of (rs := []) (vs := []) (H' := rwH (l ++ beS x 8)) (res := .tup []) [0] ?_ ?_ rfl ?_ (by simp only [List.length_cons, List.length_nil]; decide) ?_).2
 · exact na_of hnA rfl
 · (repeat (first | exact trivial | (refine ⟨⟨(by first | trivial | (simp; first | done | fail) | exact ⟨trivial, hbel _⟩), _, rfl, (by first | exact .rfl _ | exact .nil | exact .of_eq (by simp; first | done | fail) | exact AV.wk.sh (by simp; first | done | fail) | exact .untip _ _ _)⟩, ?_⟩)))
 · (repeat (first | exact trivial | refine HFromL.skip ?_ | (refine ⟨⟨(by trivial), (by rfl)⟩, ?_⟩)))
 exact ⟨_, rfl, rfl, by simp [ls, TsOk, List.zip, List.zipWith]⟩
theorem rwBytes_fc {G : List (Nat × Array Value)} (l : List UInt8) : FC Tryz.prog G 46 [.ptr 0 0] (rwH l) (sA l) (rwH l) := by
 refine FC.of_wp [2] Tryz.func46 rfl rfl rfl rfl ⟨rfl, trivial⟩ ⟨⟨trivial, trivial⟩, trivial⟩ (Nat.le_of_ble_eq_true rfl) ?_
 intro A hG hnA hAB
 unfold start
 refine WP.rs hG (Ch.asg rfl rfl (Ch.nil (WP.rs hG (Ch.mv rfl rfl (Ch.p1 rfl (OpS.nilCheckP) rfl (Ch.p1 rfl (OpS.fieldAddr rfl rfl rfl rfl) rfl (Ch.q1 rfl (OpS.loadP rfl rfl rfl) rfl rfl (Ch.asg rfl rfl (Ch.nil ?_)))))))))
 refine WP.ret ?_
 refine (Ret.of (rs := [2]) (vs := [sA l]) (H' := rwH l) (res := sA l) [0] ?_ ?_ rfl ?_ (by simp only [List.length_cons, List.length_nil]; decide) ?_).1
 · exact na_of hnA rfl
 · (repeat (first | exact trivial | (refine ⟨⟨(by trivial), _, rfl, .rfl _⟩, ?_⟩)))
 · (repeat (first | exact trivial | refine HFromL.skip ?_ | (refine ⟨⟨(by trivial), (by rfl)⟩, ?_⟩)))
 rfl
end Go.Proofs.YtpnbpcopdckgpaaGreatDoor.E
namespace Go.Proofs.YtpnbpcopdckgpaaGreatDoor.V
open Go Go.RowKit
attribute [local go_sem] B_size B_append B_extract mk_B B_toList take_drop_len List.length_drop List.length_take sgn32 sgn64 add32 sub32 mul32 add64 sub64 mul64 mul64_8 and32 or32 xor32 and64 or64 xor64 shl32_run shr32_run shl64_run shr64_run not32 not32' xor32_all w_u32_u8 w_u64_u8 w_i64_u8 w_u8_u32 w_u8_u64 w_u32_u64 w_u64_u32 w_u8_u8 w_u32_u32 w_u64_u64
attribute [local go_sem ↓] run_index_B' add32 sub32 mul32 add64 sub64 mul64 mul64_8 and32 or32 xor32 and64 or64 xor64 shl32_run shr32_run shl64_run shr64_run not32 not32' xor32_all w_u32_u8 w_u64_u8 w_i64_u8 w_u8_u32 w_u8_u64 w_u32_u64 w_u64_u32 w_u8_u8 w_u32_u32 w_u64_u64 w_u64_nat w_u32_nat w_u8_nat
set_option maxRecDepth 4000
set_option maxHeartbeats 400000 in
theorem word_ok (l : List UInt8) (w : World) (h4 : 4 ≤ l.length) :
  Calls Tryz.prog 109 #[.string (B l)] w fun e w' => e = .returned (.int .u32 (U32 (wordOf l))) ∧ ∃ n, w' = w.drewN n := by
 have g0 : (0:Int) < (l.length : Int) := by omega
 have g1 : (1:Int) < (l.length : Int) := by omega
 have g2 : (2:Int) < (l.length : Int) := by omega
 have g3 : (3:Int) < (l.length : Int) := by omega
 go_enter Tryz.func109, Tryz.ntmps109
 go_wp2
 go_quiet (fail)
 go_wp2
 go_ret
 exact ⟨rfl, _, rfl⟩
set_option maxHeartbeats 400000 in
theorem rotl_ok (x : UInt32) (n : Nat) (w : World) (h0 : 0 < n) (h1 : n < 32) :
  Calls Tryz.prog 146 #[.int .u32 (U32 x), .int .i64 (-(n : Int))] w fun e w' => e = .returned (.int .u32 (U32 (ror x n))) ∧ w = w' := by
 have k1 : bits BinOp.and IntKind.u64 (IntKind.u64.wrap (-(n : Int))) 31 = ((32 - n : Nat) : Int) := by
  rw [IntKind.wrap_u64, show (-(n : Int)) % 18446744073709551616 = ((18446744073709551616 - n : Nat) : Int) by omega, show (31 : Int) = ((31 : Nat) : Int) from rfl,
   u64_and_nat _ _ (by omega) (by omega), nat_mask5]
  omega
 have k2 : IntKind.u64.wrap (32 - ((32 - n : Nat) : Int)) = ((n : Nat) : Int) := by rw [IntKind.wrap_u64]; omega
 have k3 : (0 : Int) ≤ ((32 - n : Nat) : Int) := by omega
 go_enter Tryz.func146, Tryz.ntmps146
 go_wp2
 go_ret
 exact ⟨rfl, rfl⟩
set_option maxHeartbeats 400000 in
theorem right_ok (x : UInt32) (n : Int) (w : World) (h0 : 0 < n) (h1 : n < 32) :
  Calls Tryz.prog 110 #[.int .u32 (U32 x), .int .i64 n] w fun e w' => e = .returned (.int .u32 (U32 (ror x n.toNat))) ∧ w = w' := by
 obtain ⟨n, rfl⟩ := Int.eq_ofNat_of_zero_le (Int.le_of_lt h0)
 rw [Int.toNat_natCast]
 go_enter Tryz.func110, Tryz.ntmps110
 go_wp2_with fail
 refine (rotl_ok x n _ (by omega) (by omega)).mono ?_
 rintro e w' ⟨rfl, rfl⟩
 go_wp2
 go_ret
 exact ⟨rfl, rfl⟩
def RetBytes (w : World) (base : Nat) (v : Value) (l : List UInt8) (e : Ending) (w' : World) : Prop :=
 ∃ v', e = .returned v' ∧ obytes w' base v' l ∧ Fr v.ownBlock.toList w w' ∧ (v'.ownBlock = v.ownBlock ∨ ∃ k, v'.ownBlock = some k ∧ w.heap.size ≤ k)
set_option maxHeartbeats 400000 in
theorem lay_ok (x : UInt32) (base : Nat) (v : Value) (l : List UInt8) (w : World) (hown : obytes w base v l) (hb : l.length + 4 ≤ 140737488355328) (hbase : base ≤ w.heap.size) :
  Calls Tryz.prog 105 #[v, .int .u32 (U32 x)] w (RetBytes w base v (l ++ be4 x)) := by
 go_enter Tryz.func105, Tryz.ntmps105
 go_wp2_with (at_builtin; refine wpList_ap_bytes rfl _ _ _ rfl base v l rfl ?own _ (be4 x) 4 rfl ?src hb ?base ?_)
 case own => exact hown.alloc _
 case src => exact Src.new _ _ Tryz.underlying70 #[_, _, _, _] _ (bvs_one (be4 x))
 case base => simp; omega
 intro v' w' h1 h2 h3
 have HF : Hid (Fr v.ownBlock.toList w w') := Lib.hid (((Fr.refl _ w).alloc _).grown h2 (fun k hk => .inl (by simp [hk])))
 have H3 : Hid (v'.ownBlock = v.ownBlock ∨ ∃ k, v'.ownBlock = some k ∧ w.heap.size ≤ k) := Lib.hid (h3.imp id fun h => ⟨_, h, by simp⟩)
 clear h2 h3
 go_wp2
 go_ret
 exact ⟨v', rfl, h1, HF.out, H3.out⟩
def St.cells (s : St) : Array Value := #[.int .u32 (U32 s.a), .int .u32 (U32 s.b), .int .u32 (U32 s.c), .int .u32 (U32 s.d), .int .u32 (U32 s.e), .int .u32 (U32 s.f), .int .u32 (U32 s.g), .int .u32 (U32 s.h)]
theorem cells8 {w : World} {g : Nat} {s : St} {T : TypeId} (hg : w.heap[g]? = some (.cells s.cells T (0, 0))) :
  w.cell? ⟨g, 0, none⟩ = some (.int .u32 (U32 s.a)) ∧ w.cell? ⟨g, 1, none⟩ = some (.int .u32 (U32 s.b)) ∧ w.cell? ⟨g, 2, none⟩ = some (.int .u32 (U32 s.c)) ∧ w.cell? ⟨g, 3, none⟩ = some (.int .u32 (U32 s.d)) ∧
  w.cell? ⟨g, 4, none⟩ = some (.int .u32 (U32 s.e)) ∧ w.cell? ⟨g, 5, none⟩ = some (.int .u32 (U32 s.f)) ∧ w.cell? ⟨g, 6, none⟩ = some (.int .u32 (U32 s.g)) ∧ w.cell? ⟨g, 7, none⟩ = some (.int .u32 (U32 s.h)) ∧
  ∀ o, w.frozen? ⟨g, o, none⟩ = false := by
 refine ⟨?_, ?_, ?_, ?_, ?_, ?_, ?_, ?_, fun o => frozen_of_row w g o s.cells T hg⟩ <;> (rw [cell_of_row w g _ s.cells T (0, 0) hg]; rfl)
set_option maxHeartbeats 1000000 in
set_option maxRecDepth 100000 in
theorem round_ok (g : Nat) (s : St) (kw : UInt32) (T : TypeId) (w : World) (hg : w.heap[g]? = some (.cells s.cells T (0, 0))) :
  Calls Tryz.prog 111 #[.pointer (some ⟨g, 0, none⟩), .int .u32 (U32 kw)] w fun e w' => e = .returned (.tuple #[]) ∧ Fr [g] w w' ∧ w'.heap[g]? = some (.cells (rnd s kw).cells T (0, 0)) := by
 obtain ⟨c0, c1, c2, c3, c4, c5, c6, c7, fz⟩ := cells8 hg
 have HG := Lib.hid hg
 clear hg
 go_enter Tryz.func111, Tryz.ntmps111
 go_wp2
 go_quiet (fail)
 go_wp2
 go_quiet ((go_at_call 110; first | exact quiet_left (right_ok _ _ _ (by decide) (by decide)) | exact quiet_add_left (right_ok _ _ _ (by decide) (by decide))))
 go_wp2_with (go_at_call 110; refine (right_ok _ _ _ (by decide) (by decide)).mono ?_; rintro e w' ⟨rfl, rfl⟩)
 have HS : ∀ (j : Nat) (v : Value), [Value.int .u32 (U32 s.a), .int .u32 (U32 s.b), .int .u32 (U32 s.c), .int .u32 (U32 s.d), .int .u32 (U32 s.e), .int .u32 (U32 s.f), .int .u32 (U32 s.g)][j]? = some v → w.cell? ((⟨g, 0, none⟩ : Addr).add j) = some v := by
  intro j v hj
  have hadd : (⟨g, 0, none⟩ : Addr).add j = ⟨g, j, none⟩ := by unfold Addr.add; split <;> simp_all
  rw [hadd]
  rw [cell_of_row w g j s.cells T (0, 0) HG.out, ← hj]
  have hj7 : j < 7 := (List.getElem?_eq_some_iff.1 hj).1
  have : j = 0 ∨ j = 1 ∨ j = 2 ∨ j = 3 ∨ j = 4 ∨ j = 5 ∨ j = 6 := by omega
  rcases this with rfl | rfl | rfl | rfl | rfl | rfl | rfl <;> rfl
 have HS' := Lib.hid HS
 clear HS
 go_region_law ((refine step_copy_row rfl (.tmp 78) (.tmp 81) 205 205 rfl 120 Tryz.underlying205 u32size g 1 7 7 ⟨g, 0, none⟩ 7 8 ?h1 ?h2 s.cells T ?h3 [.int .u32 (U32 s.a), .int .u32 (U32 s.b), .int .u32 (U32 s.c), .int .u32 (U32 s.d), .int .u32 (U32 s.e), .int .u32 (U32 s.f), .int .u32 (U32 s.g)] ?h4 ?h5 ?h6 ?h7 ?h8; (case h1 => simp [Act.eval, Act.put]); (case h2 => simp [Act.eval, Act.put]); (case h3 => exact HG.out); (case h4 => rfl); (case h5 => exact HS'.out); (case h6 => exact Nat.le_refl 8); (case h7 => simp [Value.oneCell']); intro w1 hg1 hf1))
 have hg2 : w1.heap[g]? = some (.cells (St.cells ⟨s.a, s.a, s.b, s.c, s.d, s.e, s.f, s.g⟩) T (0, 0)) := hg1
 have HF := Lib.hid hf1
 have HG2 := Lib.hid hg2
 clear hg1 hf1 c0 c1 c2 c3 c4 c5 c6 c7 fz HS'
 obtain ⟨c0, c1, c2, c3, c4, c5, c6, c7, fz⟩ := cells8 hg2
 clear hg2
 dsimp only at c0 c1 c2 c3 c4 c5 c6 c7
 go_wp2
 go_region
 go_wp2
 go_end0
 refine ⟨rfl, ?_, ?_⟩
 · refine Fr.drew (Fr.setCell (Fr.setCell (((Fr.refl [g] w).drewN _).drew.trans HF.out) (.inl (by simp)) _) (.inl (by simp)) _)
 rw [heap_drew]
 exact (heap_setCell (heap_setCell HG2.out _) _)
def wv (x : UInt32) : Value := .int .u32 (U32 x)
def arr64 (l : List UInt32) : Array Value := (l.map wv ++ List.replicate (64 - l.length) (wv 0)).toArray
theorem arr64_get (l : List UInt32) (i : Nat) (h : i < l.length) : (arr64 l)[i]? = some (wv (lget l i)) := by
 simp [arr64, lget, List.getElem?_append_left, h]
theorem arr64_set (l : List UInt32) (x : UInt32) (h : l.length < 64) : (arr64 l).setIfInBounds l.length (wv x) = arr64 (l ++ [x]) := by
 unfold arr64
 apply Array.ext'
 obtain ⟨d, hd⟩ := Nat.exists_eq_add_of_lt h
 rw [show 64 - l.length = d + 1 by omega, List.replicate_succ]
 simp [List.set_append_right, show 64 - (l.length + 1) = d by omega]
theorem cell_at {w : World} {g i : Nat} {cur : Array Value} {t : TypeId} {fr : Nat × Nat} {v : Value} (hg : w.heap[g]? = some (.cells cur t fr)) (hv : cur[i]? = some v) : w.cell? ⟨g, i, none⟩ = some v := by
 rw [cell_of_row w g i cur t fr hg, hv]
structure Tabs (w : World) : Prop where
 size : 1 < w.heap.size ∧ 0 < w.heap.size
 k : ∀ i, i < 64 → w.cell? ⟨1, i, none⟩ = some (wv (lget kTab i))
 first : ∃ T, w.heap[0]? = some (.cells first.cells T (0, 0))
theorem Tabs.fr {S : List Nat} {w w' : World} (h : Tabs w) (hf : Fr S w w') (h1 : 1 ∉ S) (h2 : 0 ∉ S) : Tabs w' :=
 ⟨⟨Nat.lt_of_lt_of_le h.size.1 hf.size, Nat.lt_of_lt_of_le h.size.2 hf.size⟩, fun i hi => by rw [hf.cell h.size.1 h1]; exact h.k i hi, by rw [hf.block _ h.size.2 h2]; exact h.first⟩
def partAdd (s x : St) (n : Nat) : List UInt32 := (List.range 8).map fun j => if j < n then lget s.words j + lget x.words j else lget s.words j
theorem partAdd_set (s x : St) (n : Nat) (h : n < 8) : ((partAdd s x n).map wv).toArray.setIfInBounds n (wv (lget s.words n + lget x.words n)) = ((partAdd s x (n + 1)).map wv).toArray := by
 have : n = 0 ∨ n = 1 ∨ n = 2 ∨ n = 3 ∨ n = 4 ∨ n = 5 ∨ n = 6 ∨ n = 7 := by omega
 rcases this with rfl | rfl | rfl | rfl | rfl | rfl | rfl | rfl <;> rfl
theorem partAdd_get (s x : St) (n : Nat) (h : n < 8) : ((partAdd s x n).map wv).toArray[n]? = some (wv (lget s.words n)) := by
 have : n = 0 ∨ n = 1 ∨ n = 2 ∨ n = 3 ∨ n = 4 ∨ n = 5 ∨ n = 6 ∨ n = 7 := by omega
 rcases this with rfl | rfl | rfl | rfl | rfl | rfl | rfl | rfl <;> rfl
theorem cells_get (x : St) (n : Nat) (h : n < 8) : x.cells[n]? = some (wv (lget x.words n)) := by
 have : n = 0 ∨ n = 1 ∨ n = 2 ∨ n = 3 ∨ n = 4 ∨ n = 5 ∨ n = 6 ∨ n = 7 := by omega
 rcases this with rfl | rfl | rfl | rfl | rfl | rfl | rfl | rfl <;> rfl
noncomputable def mixBody : Code := match Tryz.f72.body with
 | some (.scope c) => c
 | _ => .skip
noncomputable def mixRest : Code := (findLabel mixBody 0).getD .skip
structure AtJump (w : World) (g gw gx : Nat) (T Tx : TypeId) (s : St) (blk : List UInt8) (n : Nat) (wr : World) : Prop where
 lt : n < 64
 v : wr.heap[g]? = some (.cells s.cells T (0, 0))
 x : wr.heap[gx]? = some (.cells (rounds s (sched blk 64) n).cells Tx (0, 0))
 ws : wr.heap[gw]? = some (.cells (arr64 (sched blk 64)) 169 (0, 0))
 fr : Fr [] w wr
 tabs : Tabs wr
 gx1 : g ≠ gx
 gx2 : gw ≠ gx
 gx3 : 1 ≠ gx
 gx4 : 0 ≠ gx
 gxn : w.heap.size ≤ gx
def mixJ (g gw gx : Nat) (blk : List UInt8) (R : Nat → World → Prop) (a : Act) (w : World) : Prop :=
 ∃ n : Nat, R n w ∧ ∃ v2 v3 v5 v6 v7 v10 v11 v12 v13 v14 v15 v16 v17 v18 v19 v20 v21 v22 v23 v24 v25 v26 v27 v28 v29 v30 v31 v32 v33 v34 v35 v36 v37 v38 v39 v40 v41 v42 v43 v44 v45 v46 v47 v48 v49 v50 v51 v52 v53 v54 v55 v56 v57 v58 v59 v60 v61 v62 v63 v64 v65 v66 v67 v68 v69 v70 v71 v72 v73 v74 v75 v76 v77 v78 v79 v80 v81 v82 v83 v84 v85 v86 v87 v88 v89 v90 : Value, a = ⟨#[.pointer (some ⟨g, 0, none⟩), .string (B blk), v2, v3, .pointer (some ⟨gw, 0, none⟩), v5, v6, v7, .pointer (some ⟨gx, 0, none⟩), .int .i64 (n : Nat), v10, v11, v12, v13, v14, v15, v16, v17, v18, v19, v20, v21, v22, v23, v24, v25, v26, v27, v28, v29, v30, v31, v32, v33, v34, v35, v36, v37, v38, v39, v40, v41, v42, v43, v44, v45, v46, v47, v48, v49, v50, v51, v52, v53, v54, v55, v56, v57, v58, v59, v60, v61, v62, v63, v64, v65, v66, v67, v68, v69, v70, v71, v72, v73, v74, v75, v76, v77, v78, v79, v80, v81, v82, v83, v84, v85, v86, v87, v88, v89, v90], []⟩
set_option maxHeartbeats 1000000 in
set_option maxRecDepth 100000 in
theorem mix_pass (w : World) (g gw gx : Nat) (T Tx : TypeId) (s : St) (blk : List UInt8) (n : Nat) (wr : World) (hJ : AtJump w g gw gx T Tx s blk n wr) (h : g < w.heap.size) (Q0 : Exit → Act → World → Prop) (v2 v3 v5 v6 v7 v10 v11 v12 v13 v14 v15 v16 v17 v18 v19 v20 v21 v22 v23 v24 v25 v26 v27 v28 v29 v30 v31 v32 v33 v34 v35 v36 v37 v38 v39 v40 v41 v42 v43 v44 v45 v46 v47 v48 v49 v50 v51 v52 v53 v54 v55 v56 v57 v58 v59 v60 v61 v62 v63 v64 v65 v66 v67 v68 v69 v70 v71 v72 v73 v74 v75 v76 v77 v78 v79 v80 v81 v82 v83 v84 v85 v86 v87 v88 v89 v90 : Value)
  (hQ : ∀ a' w', w'.heap[g]? = some (.cells (mixed s blk).cells T (0, 0)) → Fr [g] w w' → a'.defers = [] → Q0 .normal a' w') :
  Code.wp Tryz.prog mixRest (Exit.jump 0 (fun a' w' => mixJ g gw gx blk (AtJump w g gw gx T Tx s blk) a' w' ∧ (64 - (intOf (a'.tmps.getD 9 undef)).toNat) < 64 - n) Q0) ⟨#[.pointer (some ⟨g, 0, none⟩), .string (B blk), v2, v3, .pointer (some ⟨gw, 0, none⟩), v5, v6, v7, .pointer (some ⟨gx, 0, none⟩), .int .i64 (n : Nat), v10, v11, v12, v13, v14, v15, v16, v17, v18, v19, v20, v21, v22, v23, v24, v25, v26, v27, v28, v29, v30, v31, v32, v33, v34, v35, v36, v37, v38, v39, v40, v41, v42, v43, v44, v45, v46, v47, v48, v49, v50, v51, v52, v53, v54, v55, v56, v57, v58, v59, v60, v61, v62, v63, v64, v65, v66, v67, v68, v69, v70, v71, v72, v73, v74, v75, v76, v77, v78, v79, v80, v81, v82, v83, v84, v85, v86, v87, v88, v89, v90], []⟩ wr := by
 conv => arg 2; whnf
 have hk : wr.cell? ⟨1, n, none⟩ = some (.int .u32 (U32 (lget kTab n))) := hJ.tabs.k n hJ.lt
 have hw : wr.cell? ⟨gw, n, none⟩ = some (.int .u32 (U32 (lget (sched blk 64) n))) := cell_at hJ.ws (arr64_get _ _ (by rw [sched_length]; exact hJ.lt))
 have hlt : (n : Int) < 64 := by have := hJ.lt; omega
 have HJ := Lib.hid hJ
 have HQ := Lib.hid hQ
 have HG := Lib.hid h
 clear hJ hQ h
 go_wp2
 refine region_still 7 (by kernel_rfl) (by kernel_rfl) ?_; simp only [List.take_succ_cons, List.take_zero, List.drop_succ_cons, List.drop_zero]; (repeat (first | still_step)); try refine wpStill_nil ?_
 go_wp2_with fail
 refine (round_ok gx (rounds s (sched blk 64) n) _ Tx _ ?hx).mono ?_
 case hx => exact HJ.out.x
 rintro e w1 ⟨rfl, hf1, hx1⟩
 have HF1 := Lib.hid hf1
 have HX1 := Lib.hid hx1
 clear hf1 hx1 hk hw
 go_wp2
 ·
  go_step3
  have hn : n + 1 < 64 := by omega
  refine ⟨rfl, ⟨n + 1, ⟨hn, ?_, HX1.out, ?_, ?_, ?_, HJ.out.gx1, HJ.out.gx2, HJ.out.gx3, HJ.out.gx4, HJ.out.gxn⟩, ?_⟩, ?_⟩
  ·
   rw [HF1.out.block g (Array.getElem?_eq_some_iff.1 HJ.out.v).1 (by simpa using HJ.out.gx1)]
   exact HJ.out.v
  ·
   rw [HF1.out.block gw (Array.getElem?_eq_some_iff.1 HJ.out.ws).1 (by simpa using HJ.out.gx2)]
   exact HJ.out.ws
  · exact HJ.out.fr.drew.trans' HF1.out (fun _ h => .inl h) (fun x hx => .inr (by simp at hx; subst hx; exact HJ.out.gxn))
  · exact HJ.out.tabs.fr ((Fr.refl [gx] wr).drew.trans HF1.out) (by simpa using HJ.out.gx3) (by simpa using HJ.out.gx4)
  · exact ⟨_, _, _, _, _, _, _, _, _, _, _, _, _, _, _, _, _, _, _, _, _, _, _, _, _, _, _, _, _, _, _, _, _, _, _, _, _, _, _, _, _, _, _, _, _, _, _, _, _, _, _, _, _, _, _, _, _, _, _, _, _, _, _, _, _, _, _, _, _, _, _, _, _, _, _, _, _, _, _, _, _, _, _, _, _, _, rfl⟩
  simp [intOf]; omega
 have hn : n + 1 = 64 := by omega
 have hgs : g < w.heap.size := HG.out
 have hv1 : w1.heap[g]? = some (.cells s.cells T (0, 0)) := by
  rw [HF1.out.block g (Array.getElem?_eq_some_iff.1 HJ.out.v).1 (by simpa using HJ.out.gx1)]
  exact HJ.out.v
 have hx1 : w1.heap[gx]? = some (.cells (rounds s (sched blk 64) 64).cells Tx (0, 0)) := by
  have e : rounds s (sched blk 64) 64 = rnd (rounds s (sched blk 64) n) (lget kTab n + lget (sched blk 64) n) := by
   obtain rfl : n = 63 := by omega
   rfl
  rw [e]
  exact HX1.out
 have hf1 : Fr [g] w w1 := HJ.out.fr.drew.trans' HF1.out (fun _ h => by cases h) (fun x hx => .inr (by simp at hx; subst hx; exact HJ.out.gxn))
 have HV1 := Lib.hid hv1
 have HXX := Lib.hid hx1
 have HF := Lib.hid hf1
 have HGX := Lib.hid HJ.out.gx1
 have HN := Lib.hid hn
 clear hv1 hx1 hf1 hn HF1 HX1 HJ hgs
 go_loopg [76] 8 (fun k i w2 => ∃ m : Nat, m + k = 8 ∧ i = .int .i64 m ∧ Hid (w2.heap[g]? = some (.cells ((partAdd s (rounds s (sched blk 64) 64) m).map wv).toArray T (0, 0))) ∧ Hid (Fr [g] w1 w2))
 case atStart => exact ⟨0, rfl, rfl, (show _ from HV1.out), (show Fr [g] w1 w1 from Fr.refl _ _)⟩
 case round =>
  obtain ⟨m, hm, rfl, H1, H2⟩ := hrel
  have HM := Lib.hid hm
  clear hm
  have hfz : ∀ (o : Nat), wr.frozen? ⟨g, o, none⟩ = false := fun o => frozen_of_row _ _ o _ _ H1.out
  by_cases hm8 : m < 8
  ·
   have c1 : wr.cell? ⟨g, m, none⟩ = some (.int .u32 (U32 (lget s.words m))) := cell_at H1.out (partAdd_get _ _ _ hm8)
   have c2 : wr.cell? ⟨gx, m, none⟩ = some (.int .u32 (U32 (lget (rounds s (sched blk 64) 64).words m))) := by
    rw [H2.out.cell (Array.getElem?_eq_some_iff.1 HXX.out).1 (by simpa using Ne.symm HGX.out)]
    exact cell_at HXX.out (cells_get _ _ hm8)
   have hm8' : (m : Int) < 8 := by omega
   go_wp2
   refine region_still 11 (by kernel_rfl) (by kernel_rfl) ?_; simp only [List.take_succ_cons, List.take_zero, List.drop_succ_cons, List.drop_zero]; (repeat (first | still_step)); try refine wpStill_nil ?_
   go_wp2
   go_roundg (gk - 1)
   case rel =>
    refine ⟨m + 1, by have := HM.out; omega, by simp, (show _ = _ from ?_), (show Fr _ _ _ from ?_)⟩
    ·
     rw [heap_drew, heap_setCell H1.out]
     congr 2
     exact partAdd_set _ _ _ hm8
    exact Fr.drew (Fr.setCell H2.out (.inl (by simp)) _)
   case measure => have := HM.out; omega
  have hm8' : m = 8 := by have := HM.out; omega
  have HM8 := Lib.hid hm8'
  clear hm8'
  have hm9 : (8 : Int) ≤ (m : Int) := by omega
  go_wp2
  simp only [Exit.jump]
  refine HQ.out _ _ ?_ (HF.out.trans H2.out) rfl
  have := H1.out
  rw [HM8.out] at this
  exact this
set_option maxHeartbeats 1000000 in
set_option maxRecDepth 100000 in
theorem mix_ok (g : Nat) (s : St) (blk : List UInt8) (T : TypeId) (w : World) (hg : w.heap[g]? = some (.cells s.cells T (0, 0))) (hT : Tabs w) (hl : 64 ≤ blk.length) :
  Calls Tryz.prog 72 #[.pointer (some ⟨g, 0, none⟩), .string (B blk)] w fun e w' => e = .returned (.tuple #[]) ∧ Fr [g] w w' ∧ w'.heap[g]? = some (.cells (mixed s blk).cells T (0, 0)) := by
 have HG := Lib.hid hg
 clear hg
 have HT := Lib.hid hT
 clear hT
 go_enter Tryz.func72, Tryz.ntmps72
 go_wp2
 refine wp_scope_jumps 0 (mixJ g w.heap.size (w.heap.size + 1) blk (AtJump w g w.heap.size (w.heap.size + 1) T 122 s blk)) (fun a' _ => 64 - (intOf (a'.tmps.getD 9 undef)).toNat) rfl ?_ ?_
 case refine_2 =>
  rintro a' w' ⟨n, hR, hx⟩
  obtain ⟨v2, hx⟩ := hx
  obtain ⟨v3, hx⟩ := hx
  obtain ⟨v5, hx⟩ := hx
  obtain ⟨v6, hx⟩ := hx
  obtain ⟨v7, hx⟩ := hx
  obtain ⟨v10, hx⟩ := hx
  obtain ⟨v11, hx⟩ := hx
  obtain ⟨v12, hx⟩ := hx
  obtain ⟨v13, hx⟩ := hx
  obtain ⟨v14, hx⟩ := hx
  obtain ⟨v15, hx⟩ := hx
  obtain ⟨v16, hx⟩ := hx
  obtain ⟨v17, hx⟩ := hx
  obtain ⟨v18, hx⟩ := hx
  obtain ⟨v19, hx⟩ := hx
  obtain ⟨v20, hx⟩ := hx
  obtain ⟨v21, hx⟩ := hx
  obtain ⟨v22, hx⟩ := hx
  obtain ⟨v23, hx⟩ := hx
  obtain ⟨v24, hx⟩ := hx
  obtain ⟨v25, hx⟩ := hx
  obtain ⟨v26, hx⟩ := hx
  obtain ⟨v27, hx⟩ := hx
  obtain ⟨v28, hx⟩ := hx
  obtain ⟨v29, hx⟩ := hx
  obtain ⟨v30, hx⟩ := hx
  obtain ⟨v31, hx⟩ := hx
  obtain ⟨v32, hx⟩ := hx
  obtain ⟨v33, hx⟩ := hx
  obtain ⟨v34, hx⟩ := hx
  obtain ⟨v35, hx⟩ := hx
  obtain ⟨v36, hx⟩ := hx
  obtain ⟨v37, hx⟩ := hx
  obtain ⟨v38, hx⟩ := hx
  obtain ⟨v39, hx⟩ := hx
  obtain ⟨v40, hx⟩ := hx
  obtain ⟨v41, hx⟩ := hx
  obtain ⟨v42, hx⟩ := hx
  obtain ⟨v43, hx⟩ := hx
  obtain ⟨v44, hx⟩ := hx
  obtain ⟨v45, hx⟩ := hx
  obtain ⟨v46, hx⟩ := hx
  obtain ⟨v47, hx⟩ := hx
  obtain ⟨v48, hx⟩ := hx
  obtain ⟨v49, hx⟩ := hx
  obtain ⟨v50, hx⟩ := hx
  obtain ⟨v51, hx⟩ := hx
  obtain ⟨v52, hx⟩ := hx
  obtain ⟨v53, hx⟩ := hx
  obtain ⟨v54, hx⟩ := hx
  obtain ⟨v55, hx⟩ := hx
  obtain ⟨v56, hx⟩ := hx
  obtain ⟨v57, hx⟩ := hx
  obtain ⟨v58, hx⟩ := hx
  obtain ⟨v59, hx⟩ := hx
  obtain ⟨v60, hx⟩ := hx
  obtain ⟨v61, hx⟩ := hx
  obtain ⟨v62, hx⟩ := hx
  obtain ⟨v63, hx⟩ := hx
  obtain ⟨v64, hx⟩ := hx
  obtain ⟨v65, hx⟩ := hx
  obtain ⟨v66, hx⟩ := hx
  obtain ⟨v67, hx⟩ := hx
  obtain ⟨v68, hx⟩ := hx
  obtain ⟨v69, hx⟩ := hx
  obtain ⟨v70, hx⟩ := hx
  obtain ⟨v71, hx⟩ := hx
  obtain ⟨v72, hx⟩ := hx
  obtain ⟨v73, hx⟩ := hx
  obtain ⟨v74, hx⟩ := hx
  obtain ⟨v75, hx⟩ := hx
  obtain ⟨v76, hx⟩ := hx
  obtain ⟨v77, hx⟩ := hx
  obtain ⟨v78, hx⟩ := hx
  obtain ⟨v79, hx⟩ := hx
  obtain ⟨v80, hx⟩ := hx
  obtain ⟨v81, hx⟩ := hx
  obtain ⟨v82, hx⟩ := hx
  obtain ⟨v83, hx⟩ := hx
  obtain ⟨v84, hx⟩ := hx
  obtain ⟨v85, hx⟩ := hx
  obtain ⟨v86, hx⟩ := hx
  obtain ⟨v87, hx⟩ := hx
  obtain ⟨v88, hx⟩ := hx
  obtain ⟨v89, hx⟩ := hx
  obtain ⟨v90, hx⟩ := hx
  subst hx
  refine wp_mono (mix_pass w g w.heap.size (w.heap.size + 1) T 122 s blk n w' hR (Array.getElem?_eq_some_iff.1 HG.out).1 (bodyPost Tryz.prog Tryz.f72 fun e w' => e = .returned (.tuple #[]) ∧ Fr [g] w w' ∧ w'.heap[g]? = some (.cells (mixed s blk).cells T (0, 0))) _ _ _ _ _ _ _ _ _ _ _ _ _ _ _ _ _ _ _ _ _ _ _ _ _ _ _ _ _ _ _ _ _ _ _ _ _ _ _ _ _ _ _ _ _ _ _ _ _ _ _ _ _ _ _ _ _ _ _ _ _ _ _ _ _ _ _ _ _ _ _ _ _ _ _ _ _ _ _ _ _ _ _ _ _ _ ?hQ) ?hm
  case hQ =>
   intro a1 w1 h1 h2 h3
   exact bodyPost_end (results_none rfl _ _ _) h3 ⟨rfl, h2, h1⟩
  case hm =>
   intro e a1 w1 hq
   cases e with
   | goto l => exact ⟨hq.1, hq.2.1, by simpa [intOf] using hq.2.2⟩
   | _ => exact hq
 go_wp2
 go_loopg [11] 64 (fun k i wr => ∃ n : Nat, n + k = 64 ∧ i = .int .i64 n ∧ Hid (wr.heap[w.heap.size]? = some (.cells (arr64 (sched blk n)) 169 (0, 0))) ∧ Hid (Fr [] w wr) ∧ Hid (wr.heap.size = w.heap.size + 1))
 case atStart =>
  exact ⟨0, rfl, rfl, (show _ from heap_alloc_new w _), (show Fr [] w _ from (Fr.refl [] w).alloc _), (show _ = _ from by simp)⟩
 case round =>
  obtain ⟨n, hn, rfl, H1, H2, H3⟩ := hrel
  have hsl := sched_length blk n
  have HL := Lib.hid hsl
  clear hsl
  have hgw : ∀ (o : Nat), wr.frozen? ⟨w.heap.size, o, none⟩ = false := fun o => frozen_of_row wr _ o _ _ H1.out
  have hn64 : n ≤ 64 := by omega
  have HN := Lib.hid hn
  clear hn
  by_cases h16 : n < 16
  ·
   have hc : wr.cell? ⟨w.heap.size, n, none⟩ = some (wv 0) := by
    refine cell_at H1.out ?_
    simp [arr64, HL.out, List.getElem?_append_right, List.getElem?_replicate]
    omega
   go_wp2_with fail
   refine (word_ok _ _ (by simp; omega)).mono ?_
   rintro e w' ⟨rfl, m, rfl⟩
   go_wp2
   go_roundg (gk - 1)
   case rel =>
    refine ⟨n + 1, by have := HN.out; omega, by simp, (show _ = _ from ?_), (show Fr _ _ _ from Fr.setCell (H2.out.drewN _) (.inr (Nat.le_refl _)) _), (show _ = _ from by simpa using H3.out)⟩
    rw [heap_setCell (w := wr.drewN m) H1.out]
    congr 2
    have := arr64_set (sched blk n) (wordOf (blk.drop (4 * n))) (by rw [HL.out]; omega)
    rw [HL.out] at this
    rw [show sched blk (n + 1) = sched blk n ++ [nxt blk (sched blk n)] from rfl, show nxt blk (sched blk n) = wordOf (blk.drop (4 * n)) by unfold nxt; rw [HL.out, if_pos h16]]
    exact this
   case measure => have := HN.out; omega
  by_cases hlt : n < 64
  ·
   have e1 : ((n : Int) - 16).toNat = n - 16 := by omega
   have e2 : ((n : Int) - 15).toNat = n - 15 := by omega
   have e3 : ((n : Int) - 7).toNat = n - 7 := by omega
   have e4 : ((n : Int) - 2).toNat = n - 2 := by omega
   have c1 : wr.cell? ⟨w.heap.size, n - 16, none⟩ = some (.int .u32 (U32 (lget (sched blk n) (n - 16)))) := cell_at H1.out (arr64_get _ _ (by rw [HL.out]; omega))
   have c2 : wr.cell? ⟨w.heap.size, n - 15, none⟩ = some (.int .u32 (U32 (lget (sched blk n) (n - 15)))) := cell_at H1.out (arr64_get _ _ (by rw [HL.out]; omega))
   have c3 : wr.cell? ⟨w.heap.size, n - 7, none⟩ = some (.int .u32 (U32 (lget (sched blk n) (n - 7)))) := cell_at H1.out (arr64_get _ _ (by rw [HL.out]; omega))
   have c4 : wr.cell? ⟨w.heap.size, n - 2, none⟩ = some (.int .u32 (U32 (lget (sched blk n) (n - 2)))) := cell_at H1.out (arr64_get _ _ (by rw [HL.out]; omega))
   have hc : wr.cell? ⟨w.heap.size, n, none⟩ = some (wv 0) := by
    refine cell_at H1.out ?_
    simp [arr64, HL.out, List.getElem?_append_right, List.getElem?_replicate]
    omega
   go_wp2
   go_quiet (fail)
   go_wp2
   have s1 : IntKind.i64.wrap ((n : Int) - 16) = (n : Int) - 16 := IntWalk.i64_in _ (by omega)
   have s2 : IntKind.i64.wrap ((n : Int) - 7) = (n : Int) - 7 := IntWalk.i64_in _ (by omega)
   have s3 : (0 : Int) ≤ (n : Int) - 16 := by omega
   have s4 : (n : Int) - 16 < 64 := by omega
   have s5 : (0 : Int) ≤ (n : Int) - 7 := by omega
   have s6 : (n : Int) - 7 < 64 := by omega
   have s7 : (n : Int) < 64 := by omega
   have s8 : (7 : Int) ≤ (n : Int) := by omega
   have s9 : (16 : Int) ≤ (n : Int) := by omega
   refine region_still 29 (by kernel_rfl) (by kernel_rfl) ?_; simp only [List.take_succ_cons, List.take_zero, List.drop_succ_cons, List.drop_zero]; (repeat (first | still_step | (refine wpStill_step (fun K hK => ?_); go_simp; refine ⟨_, still_left (right_ok _ _ _ (by decide) (by decide)), hK _ ?_⟩; clear hK K))); try refine wpStill_nil ?_
   go_wp2
   go_roundg (gk - 1)
   case rel =>
    refine ⟨n + 1, by have := HN.out; omega, by simp, (show _ = _ from ?_), (show Fr _ _ _ from ?_), (show _ = _ from by simpa using H3.out)⟩
    ·
     rw [heap_setCell (w := wr.drewN (nq + 1)) H1.out]
     congr 2
     have := arr64_set (sched blk n) (nxt blk (sched blk n)) (by rw [HL.out]; omega)
     rw [HL.out] at this
     rw [show sched blk (n + 1) = sched blk n ++ [nxt blk (sched blk n)] from rfl, ← this]
     congr 2
     unfold nxt
     rw [HL.out, if_neg h16]
     rfl
    exact Fr.setCell (H2.out.drewN _) (.inr (Nat.le_refl _)) _
   case measure => have := HN.out; omega
  obtain rfl : n = 64 := by omega
  have hgs : g < w.heap.size := (Array.getElem?_eq_some_iff.1 HG.out).1
  have hv : wr.heap[g]? = some (.cells s.cells T (0, 0)) := by rw [H2.out.block g hgs (by simp)]; exact HG.out
  obtain ⟨c0, c1, c2, c3, c4, c5, c6, c7, fz⟩ := cells8 hv
  have HGS := Lib.hid hgs
  have HV := Lib.hid hv
  have hx := H3.out
  have HT1 := Lib.hid (HT.out.fr H2.out (by simp) (by simp))
  have hk1 : wr.cell? ⟨1, 0, none⟩ = some (.int .u32 (U32 (lget kTab 0))) := HT1.out.k 0 (by decide)
  have hw1 : wr.cell? ⟨w.heap.size, 0, none⟩ = some (.int .u32 (U32 (lget (sched blk 64) 0))) := cell_at H1.out (arr64_get _ _ (by rw [sched_length]; decide))
  have hk2 : 1 < w.heap.size := HT.out.size.1
  have hk5 : 1 < wr.heap.size := Nat.lt_of_lt_of_le hk2 H2.out.size
  have hk6 : ∀ o : Obj, (wr.alloc o).cell? ⟨1, 0, none⟩ = some (.int .u32 (U32 (lget kTab 0))) := fun o => by rw [World.cell?_alloc_past o _ _ hk5]; exact hk1
  clear hv hgs hgw HN HL hl
  go_wp2
  go_step3
  go_wp2
  refine region_still 7 (by kernel_rfl) (by kernel_rfl) ?_; simp only [List.take_succ_cons, List.take_zero, List.drop_succ_cons, List.drop_zero]; (repeat (first | still_step)); try refine wpStill_nil ?_
  go_wp2_with fail
  refine (round_ok (w.heap.size + 1) s _ 122 _ ?hx1).mono ?_
  case hx1 =>
   show (wr.alloc (.cells s.cells 122)).heap[w.heap.size + 1]? = _
   rw [← hx]
   exact heap_alloc_new wr _
  rintro e w1 ⟨rfl, hf1, hx1⟩
  have HF1 := Lib.hid hf1
  have HX1 := Lib.hid hx1
  have HX := Lib.hid hx
  clear hf1 hx1 hk1 hw1 c0 c1 c2 c3 c4 c5 c6 c7 fz hx
  go_wp2
  go_step3
  have hgs := HGS.out
  have hxs := HX.out
  have HFa : Fr [w.heap.size + 1] wr w1 := (((Fr.refl _ wr).alloc _).drew).trans HF1.out
  refine ⟨rfl, 1, ⟨by decide, ?_, HX1.out, ?_, ?_, ?_, by omega, by omega, by omega, by have := HT.out.size.2; omega, by omega⟩, ?_⟩
  ·
   rw [HFa.block g (by omega) (by simp; omega)]
   exact HV.out
  ·
   rw [HFa.block w.heap.size (by omega) (by simp)]
   exact H1.out
  · exact H2.out.trans' HFa (fun _ h => .inl h) (fun x hx => .inr (by simp at hx; omega))
  · exact HT1.out.fr HFa (by rw [List.mem_singleton]; omega) (by rw [List.mem_singleton]; have := HT.out.size.2; omega)
  exact ⟨_, _, _, _, _, _, _, _, _, _, _, _, _, _, _, _, _, _, _, _, _, _, _, _, _, _, _, _, _, _, _, _, _, _, _, _, _, _, _, _, _, _, _, _, _, _, _, _, _, _, _, _, _, _, _, _, _, _, _, _, _, _, _, _, _, _, _, _, _, _, _, _, _, _, _, _, _, _, _, _, _, _, _, _, _, _, rfl⟩
theorem u32agg : ∀ w, (isAgg 120).run Tryz.prog w = .ok false w := fun _ => by kernel_rfl
set_option maxHeartbeats 1000000 in
set_option maxRecDepth 100000 in
theorem stateString_ok (s : St) (w : World) :
  Calls Tryz.prog 73 #[.agg s.cells] w fun e w' => e = .returned (.string (B s.text)) ∧ Fr [] w w' := by
 obtain ⟨j, hj, hjs⟩ := Option.map_eq_some_iff.1 u32size
 have hix : ∀ n : Nat, n < 8 → ∀ w, (Instr.index 122 (.agg s.cells) (.int .i64 (n : Int))).run Tryz.prog w = .ok (.int .u32 (U32 (lget s.words n))) w :=
  fun n hn w => run_index_arr w _ 120 8 j Tryz.underlying122 hj hjs u32agg _ _ n _ hn (cells_get s n hn)
 have HIX := Lib.hid hix
 clear hix
 unfold St.cells
 go_enter Tryz.func73, Tryz.ntmps73
 go_wp2
 go_loopg [3, 7] 8 (fun k v i wr => ∃ n : Nat, n + k = 8 ∧ i = .int .i64 n ∧ Hid (obytes wr w.heap.size v ((s.words.take n).flatMap be4)) ∧ Hid (Fr [] w wr))
 case atStart => exact ⟨0, rfl, rfl, (show _ from obytes_nil _ _), (show _ from (Fr.refl [] w).alloc _)⟩
 case round =>
  obtain ⟨n, hn, rfl, H1, H2⟩ := hrel
  have HN := Lib.hid hn
  clear hn
  by_cases h8 : n < 8
  ·
   have h8' : (n : Int) < 8 := by omega
   have hx := HIX.out n h8
   unfold St.cells at hx
   go_wp2_with fail
   refine (lay_ok _ w.heap.size _ _ _ H1.out ?hb ?hbase).mono ?_
   case hb => rw [flat_be4_length]; have : (s.words.take n).length ≤ 8 := (by simp [St.words]; omega); omega
   case hbase => exact H2.out.size
   rintro e w1 ⟨v', rfl, h1, h2, h3⟩
   have H1' := Lib.hid h1
   have H2' := Lib.hid h2
   clear h1 h2 h3 hx
   go_wp2
   go_roundg (gk - 1)
   case rel =>
    refine ⟨n + 1, by have := HN.out; omega, by simp, (show obytes _ _ _ _ from ?_), (show Fr [] w w1 from ?_)⟩
    ·
     rw [take_words s n h8]
     exact H1'.out
    exact H2.out.trans' H2'.out (fun _ h => by cases h) (fun x hx => .inr (H1.out.lt x (by simpa using hx)).1)
   case measure => have := HN.out; omega
  have h8' : (8 : Int) ≤ (n : Int) := by omega
  have e8 : n = 8 := by have := HN.out; omega
  have E8 := Lib.hid e8
  clear e8
  have hcv := H1.out.text
  go_wp2
  go_ret
  refine ⟨?_, H2.out⟩
  rw [E8.out]
  rfl
def arr8 (l : List UInt32) : Array Value := (l.map wv ++ List.replicate (8 - l.length) (wv 0)).toArray
end Go.Proofs.YtpnbpcopdckgpaaGreatDoor.V
