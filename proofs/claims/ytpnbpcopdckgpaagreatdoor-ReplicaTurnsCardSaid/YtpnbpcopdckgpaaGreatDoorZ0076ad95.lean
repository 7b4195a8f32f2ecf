import Derived.Test.YtpnbpcopdckgpaaGreatDoorZ1313a4d3
import Derived.Test.YtpnbpcopdckgpaaGreatDoorZ77f8e77b
import Derived.Test.YtpnbpcopdckgpaaGreatDoorZ9f7193b5
import Derived.Test.YtpnbpcopdckgpaaGreatDoorZc9f0e65b
namespace Go.Proofs.YtpnbpcopdckgpaaGreatDoor.V
set_option maxRecDepth 20000
attribute [local irreducible] stepN stepV blkN blkV wstep goF goV kTabN mixed eat sum wordOf pubN pubV nodeN nodeV walkN tag
noncomputable def secN (p q c : Nat) : St := blkN first 50331648 p 2048 0 q 2048 0 (c * 256 + 128) 0 0 0 0 0 0 0 248
noncomputable def secV (m u p q c : Nat) : V8 := blkV m u (firstV u) (Nat.mul 50331648 u) p (Nat.mul 2048 u) 0 q (Nat.mul 2048 u) 0 (Nat.mul (c * 256 + 128) u) 0 0 0 0 0 0 0 (Nat.mul 248 u)
theorem secV_pk (n c : Nat) (hc : c < 32) (p q : Nat → Nat) (hp : Lt32 p) (hq : Lt32 q) : secV (mk n) (on n) (pk n p) (pk n q) c = pk8 n (fun i => secN (p i) (q i) c) := by
 have z := zero_pk n
 exact (blkV_congr (firstV_pk n) (pk_k n _) rfl (pk_k n _) z rfl (pk_k n _) z (pk_k n _) z z z z z z z (pk_k n _)).trans (blkV_pk n (fun _ => first) (k_lt (by decide)) hp (k_lt (by decide)) (k_lt (by decide)) hq (k_lt (by decide)) (k_lt (by decide)) (k_lt (by omega)) (k_lt (by decide)) (k_lt (by decide)) (k_lt (by decide)) (k_lt (by decide)) (k_lt (by decide)) (k_lt (by decide)) (k_lt (by decide)) (k_lt (by decide)))
theorem be4_2 : be4 (UInt32.ofNat 2) = [0, 0, 0, 2] := by decide +kernel
theorem pad_31 : pad 31 = [128, 0, 0, 0, 0, 0, 0, 0, 0, 0, 0, 0, 0, 0, 0, 0, 0, 0, 0, 0, 0, 0, 0, 0, 0, 0, 0, 0, 0, 0, 0, 0, 248] := by decide +kernel
theorem sec_bytes (x : UInt8) (l c : Nat) (hl : l < 32) (hc : c < 32) : input 3 [[114, x], laidN (l : Int), laidN (c : Int)] ++ pad 31 = [3, 0, 0, 0, 2, 114, x, 0, 0, 0, 8, 0, 0, 0, 0, 0, 0, 0, UInt8.ofNat l, 0, 0, 0, 8, 0, 0, 0, 0, 0, 0, 0, UInt8.ofNat c, 128, 0, 0, 0, 0, 0, 0, 0, 0, 0, 0, 0, 0, 0, 0, 0, 0, 0, 0, 0, 0, 0, 0, 0, 0, 0, 0, 0, 0, 0, 0, 0, 248] := by
 rw [laid_small l hl, laid_small c hc]
 show 3 :: ((be4 (UInt32.ofNat 2) ++ [114, x]) ++ ((be4 (UInt32.ofNat 8) ++ [0, 0, 0, 0, 0, 0, 0, UInt8.ofNat l]) ++ ((be4 (UInt32.ofNat 8) ++ [0, 0, 0, 0, 0, 0, 0, UInt8.ofNat c]) ++ []))) ++ pad 31 = _
 rw [be4_2, be4_8, pad_31]
 rfl
theorem sec_val (x : UInt8) (l c : Nat) (hl : l < 32) (hc : c < 32) : secretT [114, x] (l : Int) (c : Int) = val4 (secN (41025536 + x.toNat * 256) (l * 256) c) := by
 have hb := sec_bytes x l c hl hc
 have hn : (input 3 [[114, x], laidN (l : Int), laidN (c : Int)]).length = 31 := by
  rw [laid_small l hl, laid_small c hc]
  rfl
 have hs := sum1 (input 3 [[114, x], laidN (l : Int), laidN (c : Int)]) ([3, 0, 0, 0, 2, 114, x, 0, 0, 0, 8, 0, 0, 0, 0, 0, 0, 0, UInt8.ofNat l, 0, 0, 0, 8, 0, 0, 0, 0, 0, 0, 0, UInt8.ofNat c, 128, 0, 0, 0, 0, 0, 0, 0, 0, 0, 0, 0, 0, 0, 0, 0, 0, 0, 0, 0, 0, 0, 0, 0, 0, 0, 0, 0, 0, 0, 0, 0, 248]) (by rw [hn]; exact hb) rfl
 have hu : secretT [114, x] (l : Int) (c : Int) = (sum (input 3 [[114, x], laidN (l : Int), laidN (c : Int)])).take 16 := by unfold secretT tag; rfl
 rw [hu, hs, text_val4, mixed_blk]
 unfold secN
 exact congrArg val4 (blkN_congr (wordOf_nat _ _ _ _ _) ((wordOf_nat _ _ _ _ _).trans (by show 2 * 16777216 + 114 * 65536 + x.toNat * 256 + 0 = _; omega)) (wordOf_nat _ _ _ _ _) (wordOf_nat _ _ _ _ _) ((wordOf_nat _ _ _ _ _).trans (by rw [nat8 (by assumption)]; simp)) (wordOf_nat _ _ _ _ _) (wordOf_nat _ _ _ _ _) ((wordOf_nat _ _ _ _ _).trans (by rw [nat8 (by assumption)]; simp)) (wordOf_nat _ _ _ _ _) (wordOf_nat _ _ _ _ _) (wordOf_nat _ _ _ _ _) (wordOf_nat _ _ _ _ _) (wordOf_nat _ _ _ _ _) (wordOf_nat _ _ _ _ _) (wordOf_nat _ _ _ _ _) (wordOf_nat _ _ _ _ _))
def leafOf (i : Nat) : Nat := i / 64 % 2 + 2 * (i / 32 % 2) + 4 * (i / 16 % 2) + 8 * (i / 8 % 2) + 16 * (i / 4 % 2)
theorem leafOf_lt (i : Nat) : leafOf i < 32 := by unfold leafOf; omega
def plane (i : Nat) : Nat := 41025536 + (97 + i % 4) * 256
def qlane (i : Nat) : Nat := leafOf i * 256
noncomputable def endS (i c : Nat) : St := walkS c 15 0 (secN (plane i) (qlane i) c)
noncomputable def keyS (i : Nat) : St := pubN (endS i 0) (endS i 1) (endS i 2) (endS i 3) (endS i 4) (endS i 5) (endS i 6) (endS i 7) (endS i 8) (endS i 9)
noncomputable def keyV (m u lo p q : Nat) : V8 := forceV (walkV m u lo 0 15 0 (secV m u p q 0)) fun e0 => forceV (walkV m u lo 1 15 0 (secV m u p q 1)) fun e1 => forceV (walkV m u lo 2 15 0 (secV m u p q 2)) fun e2 => forceV (walkV m u lo 3 15 0 (secV m u p q 3)) fun e3 => forceV (walkV m u lo 4 15 0 (secV m u p q 4)) fun e4 => forceV (walkV m u lo 5 15 0 (secV m u p q 5)) fun e5 => forceV (walkV m u lo 6 15 0 (secV m u p q 6)) fun e6 => forceV (walkV m u lo 7 15 0 (secV m u p q 7)) fun e7 => forceV (walkV m u lo 8 15 0 (secV m u p q 8)) fun e8 => forceV (walkV m u lo 9 15 0 (secV m u p q 9)) fun e9 => pubV m u lo e0 e1 e2 e3 e4 e5 e6 e7 e8 e9
theorem end_val (i c : Nat) (hc : c < 10) : pubF [114, UInt8.ofNat (97 + i % 4)] (leafOf i : Int) c = val4 (endS i c) := by
 have h1 : pubF [114, UInt8.ofNat (97 + i % 4)] (leafOf i : Int) c = walkN (c : Int) 15 ((0 : Nat) : Int) (secretT [114, UInt8.ofNat (97 + i % 4)] (leafOf i : Int) (c : Int)) := by
  unfold pubF walkT
  rw [if_neg (by decide)]
  rfl
 rw [h1, sec_val _ _ _ (leafOf_lt i) (by omega), walk_val c (by omega) 15 0 _ (by decide)]
 unfold endS plane qlane
 rw [UInt8.toNat_ofNat', show (97 + i % 4) % 2 ^ 8 = 97 + i % 4 by omega]
theorem key_val (i : Nat) : pubT [114, UInt8.ofNat (97 + i % 4)] (leafOf i : Int) = (keyS i).text := by
 have h1 : pubT [114, UInt8.ofNat (97 + i % 4)] (leafOf i : Int) = tag 4 [pubF [114, UInt8.ofNat (97 + i % 4)] (leafOf i : Int) 0, pubF [114, UInt8.ofNat (97 + i % 4)] (leafOf i : Int) 1, pubF [114, UInt8.ofNat (97 + i % 4)] (leafOf i : Int) 2, pubF [114, UInt8.ofNat (97 + i % 4)] (leafOf i : Int) 3, pubF [114, UInt8.ofNat (97 + i % 4)] (leafOf i : Int) 4, pubF [114, UInt8.ofNat (97 + i % 4)] (leafOf i : Int) 5, pubF [114, UInt8.ofNat (97 + i % 4)] (leafOf i : Int) 6, pubF [114, UInt8.ofNat (97 + i % 4)] (leafOf i : Int) 7, pubF [114, UInt8.ofNat (97 + i % 4)] (leafOf i : Int) 8, pubF [114, UInt8.ofNat (97 + i % 4)] (leafOf i : Int) 9] := by unfold pubT; rfl
 rw [h1, end_val i 0 (by decide), end_val i 1 (by decide), end_val i 2 (by decide), end_val i 3 (by decide), end_val i 4 (by decide), end_val i 5 (by decide), end_val i 6 (by decide), end_val i 7 (by decide), end_val i 8 (by decide), end_val i 9 (by decide), pub_val]
 rfl
theorem plane_lt : Lt32 plane := fun i => by unfold plane; omega
theorem qlane_lt : Lt32 qlane := fun i => by have := leafOf_lt i; unfold qlane; omega
theorem chainV_pk (n c : Nat) (hc : c < 32) : walkV (mk n) (on n) (255 * on n) c 15 0 (secV (mk n) (on n) (pk n plane) (pk n qlane) c) = pk8 n (fun i => endS i c) := by
 rw [secV_pk n c hc plane qlane plane_lt qlane_lt, walkV_pk n c (by omega) 15 0 _ (by decide)]
 refine congrArg (pk8 n) (funext fun i => ?_)
 unfold endS
 rfl
theorem keyV_pk (n : Nat) : keyV (mk n) (on n) (255 * on n) (pk n plane) (pk n qlane) = pk8 n keyS := by
 unfold keyV
 simp only [forceV_eq]
 rw [chainV_pk n 0 (by decide), chainV_pk n 1 (by decide), chainV_pk n 2 (by decide), chainV_pk n 3 (by decide), chainV_pk n 4 (by decide), chainV_pk n 5 (by decide), chainV_pk n 6 (by decide), chainV_pk n 7 (by decide), chainV_pk n 8 (by decide), chainV_pk n 9 (by decide), pubV_pk]
 refine congrArg (pk8 n) (funext fun i => ?_)
 unfold keyS
 rfl
noncomputable def h1S (i : Nat) : St := nodeN (keyS i) (keyS (i + 64))
noncomputable def h2S (i : Nat) : St := nodeN (h1S i) (h1S (i + 32))
noncomputable def h3S (i : Nat) : St := nodeN (h2S i) (h2S (i + 16))
noncomputable def h4S (i : Nat) : St := nodeN (h3S i) (h3S (i + 8))
noncomputable def h5S (i : Nat) : St := nodeN (h4S i) (h4S (i + 4))
noncomputable def lvV (n : Nat) (x : V8) : V8 := force (mk n) fun m => force (on n) fun u => force (Nat.mul 255 u) fun lo => nodeV m u lo (loV (64 * n) x) (hiV (64 * n) x)
theorem lvV_pk (n : Nat) (f g : Nat → St) (hg : ∀ i, g i = nodeN (f i) (f (i + n))) : lvV n (pk8 (n + n) f) = pk8 n g := by
 unfold lvV
 rw [force_eq, force_eq, force_eq, loV_pk n n f, hiV_pk n n f]
 show nodeV (mk n) (on n) (255 * on n) (pk8 n f) (pk8 n fun i => f (i + n)) = _
 rw [nodeV_pk n f (fun i => f (i + n))]
 congr 1
 funext i
 exact (hg i).symm
noncomputable def rootsV : V8 := force (mk 128) fun m => force (on 128) fun u => force (Nat.mul 255 u) fun lo => force (pk 128 plane) fun p => force (pk 128 qlane) fun q =>
 forceV (keyV m u lo p q) fun x => forceV (lvV 64 x) fun x => forceV (lvV 32 x) fun x => forceV (lvV 16 x) fun x => forceV (lvV 8 x) fun x => forceV (lvV 4 x) fun x => x
theorem rootsV_pk : rootsV = pk8 4 h5S := by
 unfold rootsV
 rw [force_eq, force_eq, force_eq, force_eq, force_eq, forceV_eq, forceV_eq, forceV_eq, forceV_eq, forceV_eq, forceV_eq]
 show lvV 4 (lvV 8 (lvV 16 (lvV 32 (lvV 64 (keyV (mk 128) (on 128) (255 * on 128) (pk 128 plane) (pk 128 qlane)))))) = _
 rw [keyV_pk 128, lvV_pk 64 keyS h1S (fun _ => rfl), lvV_pk 32 h1S h2S (fun _ => rfl), lvV_pk 16 h2S h3S (fun _ => rfl), lvV_pk 8 h3S h4S (fun _ => rfl), lvV_pk 4 h4S h5S (fun _ => rfl)]
noncomputable def unlike4 (x : Nat) : Bool := force x fun x => force (x % 2 ^ 64) fun a => force (x / 2 ^ 64 % 2 ^ 64) fun b => force (x / 2 ^ 128 % 2 ^ 64) fun c => force (x / 2 ^ 192) fun d => !(Nat.beq a b) && !(Nat.beq a c) && !(Nat.beq a d) && !(Nat.beq b c) && !(Nat.beq b d) && !(Nat.beq c d)
end Go.Proofs.YtpnbpcopdckgpaaGreatDoor.V
namespace Go.Proofs.YtpnbpcopdckgpaaGreatDoor.V
set_option maxRecDepth 20000
theorem roots_unlike : unlike4 rootsV.a = true := by decide +kernel
attribute [local irreducible] stepN stepV blkN blkV wstep goF goV kTabN mixed eat sum wordOf pubN pubV nodeN nodeV walkN tag node keyS pubT rootsV
theorem lanes4 (a b c d : Nat) (ha : a < 4294967296) (hb : b < 4294967296) (hc : c < 4294967296) (hd : d < 4294967296) (h : unlike4 (a + 2 ^ 64 * (b + 2 ^ 64 * (c + 2 ^ 64 * (d + 2 ^ 64 * 0)))) = true) : a ≠ b ∧ a ≠ c ∧ a ≠ d ∧ b ≠ c ∧ b ≠ d ∧ c ≠ d := by
 unfold unlike4 at h
 rw [force_eq, force_eq, force_eq, force_eq, force_eq] at h
 have e1 : (a + 2 ^ 64 * (b + 2 ^ 64 * (c + 2 ^ 64 * (d + 2 ^ 64 * 0)))) % 2 ^ 64 = a := by omega
 have e2 : (a + 2 ^ 64 * (b + 2 ^ 64 * (c + 2 ^ 64 * (d + 2 ^ 64 * 0)))) / 2 ^ 64 % 2 ^ 64 = b := by omega
 have e3 : (a + 2 ^ 64 * (b + 2 ^ 64 * (c + 2 ^ 64 * (d + 2 ^ 64 * 0)))) / 2 ^ 128 % 2 ^ 64 = c := by omega
 have e4 : (a + 2 ^ 64 * (b + 2 ^ 64 * (c + 2 ^ 64 * (d + 2 ^ 64 * 0)))) / 2 ^ 192 = d := by omega
 rw [e1, e2, e3, e4] at h
 simp only [Bool.and_eq_true, Bool.not_eq_true'] at h
 obtain ⟨⟨⟨⟨⟨h1, h2⟩, h3⟩, h4⟩, h5⟩, h6⟩ := h
 exact ⟨Nat.ne_of_beq_eq_false h1, Nat.ne_of_beq_eq_false h2, Nat.ne_of_beq_eq_false h3, Nat.ne_of_beq_eq_false h4, Nat.ne_of_beq_eq_false h5, Nat.ne_of_beq_eq_false h6⟩
theorem lanes_pk (S : Nat → St) (h : unlike4 (pk8 4 S).a = true) : (S 0).a.toNat ≠ (S 1).a.toNat ∧ (S 0).a.toNat ≠ (S 2).a.toNat ∧ (S 0).a.toNat ≠ (S 3).a.toNat ∧ (S 1).a.toNat ≠ (S 2).a.toNat ∧ (S 1).a.toNat ≠ (S 3).a.toNat ∧ (S 2).a.toNat ≠ (S 3).a.toNat :=
 lanes4 _ _ _ _ (S 0).a.toNat_lt (S 1).a.toNat_lt (S 2).a.toNat_lt (S 3).a.toNat_lt h
theorem root_a : (h5S 0).a.toNat ≠ (h5S 1).a.toNat ∧ (h5S 0).a.toNat ≠ (h5S 2).a.toNat ∧ (h5S 0).a.toNat ≠ (h5S 3).a.toNat ∧ (h5S 1).a.toNat ≠ (h5S 2).a.toNat ∧ (h5S 1).a.toNat ≠ (h5S 3).a.toNat ∧ (h5S 2).a.toNat ≠ (h5S 3).a.toNat := by
 have h := roots_unlike
 rw [rootsV_pk] at h
 exact lanes_pk h5S h
theorem text_head (s : St) : ∃ r, s.text = (shr32 s.a 24).toUInt8 :: (shr32 s.a 16).toUInt8 :: (shr32 s.a 8).toUInt8 :: s.a.toUInt8 :: r := ⟨_, rfl⟩
theorem text_a {s t : St} (h : s.text = t.text) : s.a.toNat = t.a.toNat := by
 obtain ⟨r, hr⟩ := text_head s
 obtain ⟨q, hq⟩ := text_head t
 rw [hr, hq] at h
 simp only [List.cons.injEq] at h
 obtain ⟨h1, h2, h3, h4, -⟩ := h
 have k1 := congrArg UInt8.toNat h1
 have k2 := congrArg UInt8.toNat h2
 have k3 := congrArg UInt8.toNat h3
 have k4 := congrArg UInt8.toNat h4
 rw [byte_nat, byte_nat, shr_nat, shr_nat, Nat.shiftRight_eq_div_pow, Nat.shiftRight_eq_div_pow] at k1 k2 k3
 rw [byte_nat, byte_nat] at k4
 have hs := s.a.toNat_lt
 have ht := t.a.toNat_lt
 omega
theorem pk0_0 : pubT [114, 97] 0 = (keyS 0).text := key_val 0
theorem pk0_1 : pubT [114, 97] 1 = (keyS 64).text := key_val 64
theorem pk0_2 : pubT [114, 97] 2 = (keyS 32).text := key_val 32
theorem pk0_3 : pubT [114, 97] 3 = (keyS 96).text := key_val 96
theorem pk0_4 : pubT [114, 97] 4 = (keyS 16).text := key_val 16
theorem pk0_5 : pubT [114, 97] 5 = (keyS 80).text := key_val 80
theorem pk0_6 : pubT [114, 97] 6 = (keyS 48).text := key_val 48
theorem pk0_7 : pubT [114, 97] 7 = (keyS 112).text := key_val 112
theorem pk0_8 : pubT [114, 97] 8 = (keyS 8).text := key_val 8
theorem pk0_9 : pubT [114, 97] 9 = (keyS 72).text := key_val 72
theorem pk0_10 : pubT [114, 97] 10 = (keyS 40).text := key_val 40
theorem pk0_11 : pubT [114, 97] 11 = (keyS 104).text := key_val 104
theorem pk0_12 : pubT [114, 97] 12 = (keyS 24).text := key_val 24
theorem pk0_13 : pubT [114, 97] 13 = (keyS 88).text := key_val 88
theorem pk0_14 : pubT [114, 97] 14 = (keyS 56).text := key_val 56
theorem pk0_15 : pubT [114, 97] 15 = (keyS 120).text := key_val 120
theorem pk0_16 : pubT [114, 97] 16 = (keyS 4).text := key_val 4
theorem pk0_17 : pubT [114, 97] 17 = (keyS 68).text := key_val 68
theorem pk0_18 : pubT [114, 97] 18 = (keyS 36).text := key_val 36
theorem pk0_19 : pubT [114, 97] 19 = (keyS 100).text := key_val 100
theorem pk0_20 : pubT [114, 97] 20 = (keyS 20).text := key_val 20
theorem pk0_21 : pubT [114, 97] 21 = (keyS 84).text := key_val 84
theorem pk0_22 : pubT [114, 97] 22 = (keyS 52).text := key_val 52
theorem pk0_23 : pubT [114, 97] 23 = (keyS 116).text := key_val 116
theorem pk0_24 : pubT [114, 97] 24 = (keyS 12).text := key_val 12
theorem pk0_25 : pubT [114, 97] 25 = (keyS 76).text := key_val 76
theorem pk0_26 : pubT [114, 97] 26 = (keyS 44).text := key_val 44
theorem pk0_27 : pubT [114, 97] 27 = (keyS 108).text := key_val 108
theorem pk0_28 : pubT [114, 97] 28 = (keyS 28).text := key_val 28
theorem pk0_29 : pubT [114, 97] 29 = (keyS 92).text := key_val 92
theorem pk0_30 : pubT [114, 97] 30 = (keyS 60).text := key_val 60
theorem pk0_31 : pubT [114, 97] 31 = (keyS 124).text := key_val 124
theorem root_0 : rootN 5 (leavesT [114, 97] 5) = (h5S 0).text := by
 show node (node (node (node (node (pubT [114, 97] 0) (pubT [114, 97] 1)) (node (pubT [114, 97] 2) (pubT [114, 97] 3))) (node (node (pubT [114, 97] 4) (pubT [114, 97] 5)) (node (pubT [114, 97] 6) (pubT [114, 97] 7)))) (node (node (node (pubT [114, 97] 8) (pubT [114, 97] 9)) (node (pubT [114, 97] 10) (pubT [114, 97] 11))) (node (node (pubT [114, 97] 12) (pubT [114, 97] 13)) (node (pubT [114, 97] 14) (pubT [114, 97] 15))))) (node (node (node (node (pubT [114, 97] 16) (pubT [114, 97] 17)) (node (pubT [114, 97] 18) (pubT [114, 97] 19))) (node (node (pubT [114, 97] 20) (pubT [114, 97] 21)) (node (pubT [114, 97] 22) (pubT [114, 97] 23)))) (node (node (node (pubT [114, 97] 24) (pubT [114, 97] 25)) (node (pubT [114, 97] 26) (pubT [114, 97] 27))) (node (node (pubT [114, 97] 28) (pubT [114, 97] 29)) (node (pubT [114, 97] 30) (pubT [114, 97] 31))))) = _
 rw [pk0_0, pk0_1, pk0_2, pk0_3, pk0_4, pk0_5, pk0_6, pk0_7, pk0_8, pk0_9, pk0_10, pk0_11, pk0_12, pk0_13, pk0_14, pk0_15, pk0_16, pk0_17, pk0_18, pk0_19, pk0_20, pk0_21, pk0_22, pk0_23, pk0_24, pk0_25, pk0_26, pk0_27, pk0_28, pk0_29, pk0_30, pk0_31]
 simp only [node_val]
 rfl
theorem pk1_0 : pubT [114, 98] 0 = (keyS 1).text := key_val 1
theorem pk1_1 : pubT [114, 98] 1 = (keyS 65).text := key_val 65
theorem pk1_2 : pubT [114, 98] 2 = (keyS 33).text := key_val 33
theorem pk1_3 : pubT [114, 98] 3 = (keyS 97).text := key_val 97
theorem pk1_4 : pubT [114, 98] 4 = (keyS 17).text := key_val 17
theorem pk1_5 : pubT [114, 98] 5 = (keyS 81).text := key_val 81
theorem pk1_6 : pubT [114, 98] 6 = (keyS 49).text := key_val 49
theorem pk1_7 : pubT [114, 98] 7 = (keyS 113).text := key_val 113
theorem pk1_8 : pubT [114, 98] 8 = (keyS 9).text := key_val 9
theorem pk1_9 : pubT [114, 98] 9 = (keyS 73).text := key_val 73
theorem pk1_10 : pubT [114, 98] 10 = (keyS 41).text := key_val 41
theorem pk1_11 : pubT [114, 98] 11 = (keyS 105).text := key_val 105
theorem pk1_12 : pubT [114, 98] 12 = (keyS 25).text := key_val 25
theorem pk1_13 : pubT [114, 98] 13 = (keyS 89).text := key_val 89
theorem pk1_14 : pubT [114, 98] 14 = (keyS 57).text := key_val 57
theorem pk1_15 : pubT [114, 98] 15 = (keyS 121).text := key_val 121
theorem pk1_16 : pubT [114, 98] 16 = (keyS 5).text := key_val 5
theorem pk1_17 : pubT [114, 98] 17 = (keyS 69).text := key_val 69
theorem pk1_18 : pubT [114, 98] 18 = (keyS 37).text := key_val 37
theorem pk1_19 : pubT [114, 98] 19 = (keyS 101).text := key_val 101
theorem pk1_20 : pubT [114, 98] 20 = (keyS 21).text := key_val 21
theorem pk1_21 : pubT [114, 98] 21 = (keyS 85).text := key_val 85
theorem pk1_22 : pubT [114, 98] 22 = (keyS 53).text := key_val 53
theorem pk1_23 : pubT [114, 98] 23 = (keyS 117).text := key_val 117
theorem pk1_24 : pubT [114, 98] 24 = (keyS 13).text := key_val 13
theorem pk1_25 : pubT [114, 98] 25 = (keyS 77).text := key_val 77
theorem pk1_26 : pubT [114, 98] 26 = (keyS 45).text := key_val 45
theorem pk1_27 : pubT [114, 98] 27 = (keyS 109).text := key_val 109
theorem pk1_28 : pubT [114, 98] 28 = (keyS 29).text := key_val 29
theorem pk1_29 : pubT [114, 98] 29 = (keyS 93).text := key_val 93
theorem pk1_30 : pubT [114, 98] 30 = (keyS 61).text := key_val 61
theorem pk1_31 : pubT [114, 98] 31 = (keyS 125).text := key_val 125
theorem root_1 : rootN 5 (leavesT [114, 98] 5) = (h5S 1).text := by
 show node (node (node (node (node (pubT [114, 98] 0) (pubT [114, 98] 1)) (node (pubT [114, 98] 2) (pubT [114, 98] 3))) (node (node (pubT [114, 98] 4) (pubT [114, 98] 5)) (node (pubT [114, 98] 6) (pubT [114, 98] 7)))) (node (node (node (pubT [114, 98] 8) (pubT [114, 98] 9)) (node (pubT [114, 98] 10) (pubT [114, 98] 11))) (node (node (pubT [114, 98] 12) (pubT [114, 98] 13)) (node (pubT [114, 98] 14) (pubT [114, 98] 15))))) (node (node (node (node (pubT [114, 98] 16) (pubT [114, 98] 17)) (node (pubT [114, 98] 18) (pubT [114, 98] 19))) (node (node (pubT [114, 98] 20) (pubT [114, 98] 21)) (node (pubT [114, 98] 22) (pubT [114, 98] 23)))) (node (node (node (pubT [114, 98] 24) (pubT [114, 98] 25)) (node (pubT [114, 98] 26) (pubT [114, 98] 27))) (node (node (pubT [114, 98] 28) (pubT [114, 98] 29)) (node (pubT [114, 98] 30) (pubT [114, 98] 31))))) = _
 rw [pk1_0, pk1_1, pk1_2, pk1_3, pk1_4, pk1_5, pk1_6, pk1_7, pk1_8, pk1_9, pk1_10, pk1_11, pk1_12, pk1_13, pk1_14, pk1_15, pk1_16, pk1_17, pk1_18, pk1_19, pk1_20, pk1_21, pk1_22, pk1_23, pk1_24, pk1_25, pk1_26, pk1_27, pk1_28, pk1_29, pk1_30, pk1_31]
 simp only [node_val]
 rfl
theorem pk2_0 : pubT [114, 99] 0 = (keyS 2).text := key_val 2
theorem pk2_1 : pubT [114, 99] 1 = (keyS 66).text := key_val 66
theorem pk2_2 : pubT [114, 99] 2 = (keyS 34).text := key_val 34
theorem pk2_3 : pubT [114, 99] 3 = (keyS 98).text := key_val 98
theorem pk2_4 : pubT [114, 99] 4 = (keyS 18).text := key_val 18
theorem pk2_5 : pubT [114, 99] 5 = (keyS 82).text := key_val 82
theorem pk2_6 : pubT [114, 99] 6 = (keyS 50).text := key_val 50
theorem pk2_7 : pubT [114, 99] 7 = (keyS 114).text := key_val 114
theorem pk2_8 : pubT [114, 99] 8 = (keyS 10).text := key_val 10
theorem pk2_9 : pubT [114, 99] 9 = (keyS 74).text := key_val 74
theorem pk2_10 : pubT [114, 99] 10 = (keyS 42).text := key_val 42
theorem pk2_11 : pubT [114, 99] 11 = (keyS 106).text := key_val 106
theorem pk2_12 : pubT [114, 99] 12 = (keyS 26).text := key_val 26
theorem pk2_13 : pubT [114, 99] 13 = (keyS 90).text := key_val 90
theorem pk2_14 : pubT [114, 99] 14 = (keyS 58).text := key_val 58
theorem pk2_15 : pubT [114, 99] 15 = (keyS 122).text := key_val 122
theorem pk2_16 : pubT [114, 99] 16 = (keyS 6).text := key_val 6
theorem pk2_17 : pubT [114, 99] 17 = (keyS 70).text := key_val 70
theorem pk2_18 : pubT [114, 99] 18 = (keyS 38).text := key_val 38
theorem pk2_19 : pubT [114, 99] 19 = (keyS 102).text := key_val 102
theorem pk2_20 : pubT [114, 99] 20 = (keyS 22).text := key_val 22
theorem pk2_21 : pubT [114, 99] 21 = (keyS 86).text := key_val 86
theorem pk2_22 : pubT [114, 99] 22 = (keyS 54).text := key_val 54
theorem pk2_23 : pubT [114, 99] 23 = (keyS 118).text := key_val 118
theorem pk2_24 : pubT [114, 99] 24 = (keyS 14).text := key_val 14
theorem pk2_25 : pubT [114, 99] 25 = (keyS 78).text := key_val 78
theorem pk2_26 : pubT [114, 99] 26 = (keyS 46).text := key_val 46
theorem pk2_27 : pubT [114, 99] 27 = (keyS 110).text := key_val 110
theorem pk2_28 : pubT [114, 99] 28 = (keyS 30).text := key_val 30
theorem pk2_29 : pubT [114, 99] 29 = (keyS 94).text := key_val 94
theorem pk2_30 : pubT [114, 99] 30 = (keyS 62).text := key_val 62
theorem pk2_31 : pubT [114, 99] 31 = (keyS 126).text := key_val 126
theorem root_2 : rootN 5 (leavesT [114, 99] 5) = (h5S 2).text := by
 show node (node (node (node (node (pubT [114, 99] 0) (pubT [114, 99] 1)) (node (pubT [114, 99] 2) (pubT [114, 99] 3))) (node (node (pubT [114, 99] 4) (pubT [114, 99] 5)) (node (pubT [114, 99] 6) (pubT [114, 99] 7)))) (node (node (node (pubT [114, 99] 8) (pubT [114, 99] 9)) (node (pubT [114, 99] 10) (pubT [114, 99] 11))) (node (node (pubT [114, 99] 12) (pubT [114, 99] 13)) (node (pubT [114, 99] 14) (pubT [114, 99] 15))))) (node (node (node (node (pubT [114, 99] 16) (pubT [114, 99] 17)) (node (pubT [114, 99] 18) (pubT [114, 99] 19))) (node (node (pubT [114, 99] 20) (pubT [114, 99] 21)) (node (pubT [114, 99] 22) (pubT [114, 99] 23)))) (node (node (node (pubT [114, 99] 24) (pubT [114, 99] 25)) (node (pubT [114, 99] 26) (pubT [114, 99] 27))) (node (node (pubT [114, 99] 28) (pubT [114, 99] 29)) (node (pubT [114, 99] 30) (pubT [114, 99] 31))))) = _
 rw [pk2_0, pk2_1, pk2_2, pk2_3, pk2_4, pk2_5, pk2_6, pk2_7, pk2_8, pk2_9, pk2_10, pk2_11, pk2_12, pk2_13, pk2_14, pk2_15, pk2_16, pk2_17, pk2_18, pk2_19, pk2_20, pk2_21, pk2_22, pk2_23, pk2_24, pk2_25, pk2_26, pk2_27, pk2_28, pk2_29, pk2_30, pk2_31]
 simp only [node_val]
 rfl
theorem pk3_0 : pubT [114, 100] 0 = (keyS 3).text := key_val 3
theorem pk3_1 : pubT [114, 100] 1 = (keyS 67).text := key_val 67
theorem pk3_2 : pubT [114, 100] 2 = (keyS 35).text := key_val 35
theorem pk3_3 : pubT [114, 100] 3 = (keyS 99).text := key_val 99
theorem pk3_4 : pubT [114, 100] 4 = (keyS 19).text := key_val 19
theorem pk3_5 : pubT [114, 100] 5 = (keyS 83).text := key_val 83
theorem pk3_6 : pubT [114, 100] 6 = (keyS 51).text := key_val 51
theorem pk3_7 : pubT [114, 100] 7 = (keyS 115).text := key_val 115
theorem pk3_8 : pubT [114, 100] 8 = (keyS 11).text := key_val 11
theorem pk3_9 : pubT [114, 100] 9 = (keyS 75).text := key_val 75
theorem pk3_10 : pubT [114, 100] 10 = (keyS 43).text := key_val 43
theorem pk3_11 : pubT [114, 100] 11 = (keyS 107).text := key_val 107
theorem pk3_12 : pubT [114, 100] 12 = (keyS 27).text := key_val 27
theorem pk3_13 : pubT [114, 100] 13 = (keyS 91).text := key_val 91
theorem pk3_14 : pubT [114, 100] 14 = (keyS 59).text := key_val 59
theorem pk3_15 : pubT [114, 100] 15 = (keyS 123).text := key_val 123
theorem pk3_16 : pubT [114, 100] 16 = (keyS 7).text := key_val 7
theorem pk3_17 : pubT [114, 100] 17 = (keyS 71).text := key_val 71
theorem pk3_18 : pubT [114, 100] 18 = (keyS 39).text := key_val 39
theorem pk3_19 : pubT [114, 100] 19 = (keyS 103).text := key_val 103
theorem pk3_20 : pubT [114, 100] 20 = (keyS 23).text := key_val 23
theorem pk3_21 : pubT [114, 100] 21 = (keyS 87).text := key_val 87
theorem pk3_22 : pubT [114, 100] 22 = (keyS 55).text := key_val 55
theorem pk3_23 : pubT [114, 100] 23 = (keyS 119).text := key_val 119
theorem pk3_24 : pubT [114, 100] 24 = (keyS 15).text := key_val 15
theorem pk3_25 : pubT [114, 100] 25 = (keyS 79).text := key_val 79
theorem pk3_26 : pubT [114, 100] 26 = (keyS 47).text := key_val 47
theorem pk3_27 : pubT [114, 100] 27 = (keyS 111).text := key_val 111
theorem pk3_28 : pubT [114, 100] 28 = (keyS 31).text := key_val 31
theorem pk3_29 : pubT [114, 100] 29 = (keyS 95).text := key_val 95
theorem pk3_30 : pubT [114, 100] 30 = (keyS 63).text := key_val 63
theorem pk3_31 : pubT [114, 100] 31 = (keyS 127).text := key_val 127
theorem root_3 : rootN 5 (leavesT [114, 100] 5) = (h5S 3).text := by
 show node (node (node (node (node (pubT [114, 100] 0) (pubT [114, 100] 1)) (node (pubT [114, 100] 2) (pubT [114, 100] 3))) (node (node (pubT [114, 100] 4) (pubT [114, 100] 5)) (node (pubT [114, 100] 6) (pubT [114, 100] 7)))) (node (node (node (pubT [114, 100] 8) (pubT [114, 100] 9)) (node (pubT [114, 100] 10) (pubT [114, 100] 11))) (node (node (pubT [114, 100] 12) (pubT [114, 100] 13)) (node (pubT [114, 100] 14) (pubT [114, 100] 15))))) (node (node (node (node (pubT [114, 100] 16) (pubT [114, 100] 17)) (node (pubT [114, 100] 18) (pubT [114, 100] 19))) (node (node (pubT [114, 100] 20) (pubT [114, 100] 21)) (node (pubT [114, 100] 22) (pubT [114, 100] 23)))) (node (node (node (pubT [114, 100] 24) (pubT [114, 100] 25)) (node (pubT [114, 100] 26) (pubT [114, 100] 27))) (node (node (pubT [114, 100] 28) (pubT [114, 100] 29)) (node (pubT [114, 100] 30) (pubT [114, 100] 31))))) = _
 rw [pk3_0, pk3_1, pk3_2, pk3_3, pk3_4, pk3_5, pk3_6, pk3_7, pk3_8, pk3_9, pk3_10, pk3_11, pk3_12, pk3_13, pk3_14, pk3_15, pk3_16, pk3_17, pk3_18, pk3_19, pk3_20, pk3_21, pk3_22, pk3_23, pk3_24, pk3_25, pk3_26, pk3_27, pk3_28, pk3_29, pk3_30, pk3_31]
 simp only [node_val]
 rfl
def seedT (i : Nat) : Txt := [114, UInt8.ofNat (97 + i)]
theorem root_seed : ∀ i, i < 4 → rootN 5 (leavesT (seedT i) 5) = (h5S i).text
 | 0, _ => root_0
 | 1, _ => root_1
 | 2, _ => root_2
 | 3, _ => root_3
theorem root_ne (i j : Nat) (hi : i < 4) (hj : j < 4) (h : i ≠ j) : (h5S i).a.toNat ≠ (h5S j).a.toNat := by
 obtain ⟨k1, k2, k3, k4, k5, k6⟩ := root_a
 match i, j, hi, hj, h with
 | 0, 1, _, _, _ => exact k1
 | 0, 2, _, _, _ => exact k2
 | 0, 3, _, _, _ => exact k3
 | 1, 2, _, _, _ => exact k4
 | 1, 3, _, _, _ => exact k5
 | 2, 3, _, _, _ => exact k6
 | 1, 0, _, _, _ => exact fun e => k1 e.symm
 | 2, 0, _, _, _ => exact fun e => k2 e.symm
 | 3, 0, _, _, _ => exact fun e => k3 e.symm
 | 2, 1, _, _, _ => exact fun e => k4 e.symm
 | 3, 1, _, _, _ => exact fun e => k5 e.symm
 | 3, 2, _, _, _ => exact fun e => k6 e.symm
 | 0, 0, _, _, h => exact (h rfl).elim
 | 1, 1, _, _, h => exact (h rfl).elim
 | 2, 2, _, _, h => exact (h rfl).elim
 | 3, 3, _, _, h => exact (h rfl).elim
theorem keys_unlike (i j : Nat) (hi : i < 4) (hj : j < 4) (h : i ≠ j) : keyT (seedT i) 5 ≠ keyT (seedT j) 5 := by
 intro e
 have e2 := congrArg (List.drop 8) e
 rw [key_tail, key_tail, root_seed i hi, root_seed j hj] at e2
 exact root_ne i j hi hj h (text_a e2)
end Go.Proofs.YtpnbpcopdckgpaaGreatDoor.V
namespace Go.Proofs.YtpnbpcopdckgpaaGreatDoor.E
open Go Go.RowKit V
set_option maxRecDepth 4000
set_option maxRecDepth 4000
def keysP (m : Nat) : List Txt := (List.range m).map fun i => keyT (seedT i) 5
theorem keysP_succ (m : Nat) : keysP (m + 1) = keysP m ++ [keyT (seedT m) 5] := by simp [keysP, List.range_succ]
theorem keysP_0 : keysP 0 = [] := by simp [keysP]
theorem keysP_len (m : Nat) : (keysP m).length = m := by simp [keysP]
def sdL : List Txt := [[114, 97], [114, 98], [114, 99], [114, 100]]
theorem sdL_el : ∀ m, m < 4 → el sdL m = seedT m
 | 0, _ => rfl
 | 1, _ => rfl
 | 2, _ => rfl
 | 3, _ => rfl
theorem keysP_el (n i : Nat) (h : i < n) : el (keysP n) i = keyT (seedT i) 5 := by
 unfold el keysP
 rw [List.getElem?_map, List.getElem?_range h]
 rfl
theorem keys40 : ∀ x ∈ keysP 4, x.length = 40 := by
 intro x hx
 obtain ⟨i, -, rfl⟩ := List.mem_map.1 hx
 exact keyT_length _ _
theorem keys_nd : ∀ i j, i < j → j < (keysP 4).length → el (keysP 4) i ≠ el (keysP 4) j := by
 intro i j hij hj
 rw [keysP_len] at hj
 rw [keysP_el 4 i (by omega), keysP_el 4 j hj]
 exact keys_unlike i j (by omega) hj (by omega)
theorem vsA_app (l : List Txt) (k : Txt) : l.flatMap vA ++ vA k = (l ++ [k]).flatMap vA := by
 rw [List.flatMap_append]
 simp
attribute [local irreducible] sum tag input laidN wstep walkT secretT digitsT pubT signT fromT rootN pathN leavesT beS sigP sigT keyT keysP seedT sdL
section
variable {G : List (Nat × Array Value)}
theorem seeds_fc : FP G 24 [] [] (.sl none 4 (sdL.map sA)) [] := by
 have e : sdL.map sA = [sA [114, 97], sA [114, 98], sA [114, 99], sA [114, 100]] := by with_unfolding_all rfl
 rw [e]
 refine FC.of_wp [0] Tryz.func24 rfl rfl rfl rfl (by trivial) (by trivial) (Nat.le_of_ble_eq_true rfl) ?_
 intro A hG hnA hAB
 unfold start
 refine WP.rs hG (Ch.asg rfl rfl (Ch.nil (WP.rs hG (Ch.pup gdN (by repeat (first | exact EvP.nil | (apply EvP.cons; exact rfl))) (OpS.slice1 (ys := [sA [114, 97], sA [114, 98], sA [114, 99], sA [114, 100]]) rfl rfl rfl rfl rfl rfl (by rfl) rfl (by rfl)) rfl ?_))))
 refine Ch.asg rfl rfl (Ch.nil ?_)
 exact WP.ret (Ret.one rfl (.of_eq rfl) ⟨(fun k hk => by cases hk), trivial, trivial, trivial, trivial, trivial⟩ hnA)
theorem vals_fc (hr : RefIn G) : FP G 22 [] [] (.sl none (3 + 1) ((keysP 4).flatMap vA)) [] := by
 have hsl : sdL.length = 4 := by with_unfolding_all rfl
 refine FC.of_wp [0] Tryz.func22 rfl rfl rfl rfl (by trivial) (by trivial) (Nat.le_of_ble_eq_true rfl) ?_
 intro A hG hnA hAB
 unfold start
 refine WP.rs hG (Ch.asg rfl rfl (Ch.nil (WP.rs hG (Ch.asg rfl rfl (Ch.nil (WP.rs hG (Ch.callS (seeds_fc) gdN .nil .n (by simp) rfl ?_)))))))
 refine Ch.asg rfl rfl (Ch.nil (WP.seq (WP.from (SEnt.nilTip (t := 1) 0 77 2 rfl rfl) (WP.rs hG (Ch.asg rfl rfl (Ch.nil (WP.block ?_)))))))
 refine WP.loop (fun k σ => ∃ m : Nat, m + k = 4 ∧ σ = ⟨26, ls [(1, .sl (some 0) m ((keysP m).flatMap vA)), (2, .sl none 4 (sdL.map sA)), (3, .v (.int .i64 (m : Int)))], lh [(0, .tip 77 2 m)], blt 1⟩) (4) (Ent.of [0] ?_ ?_ ?_ ?_).se ⟨0, by omega, (by with_unfolding_all rfl)⟩ ?_
 · exact na_of hnA rfl
 · (repeat (first | exact trivial | (refine ⟨⟨(by first | trivial | (simp; first | done | fail)), _, rfl, (by first | exact .rfl _ | exact .of_eq (by simp [renL_vs, keysP_0]; first | done | fail))⟩, ?_⟩)))
 · (repeat (first | exact trivial | (refine ⟨⟨rfl, (by trivial), (by rfl)⟩, ?_⟩)))
 · exact nd_of rfl
 rintro k σ ⟨m, hm', rfl⟩
 have hkl := keysP_len m
 have hfl := flatA_len vA 2 vA_len (keysP m)
 rw [hkl] at hfl
 refine WP.seq (WP.rs hG (Ch.mv rfl rfl (Ch.p2 rfl rfl (OpS.int rfl (by exact rfl)) rfl ?_)))
 refine Ch.nil ?_
 refine WP.cond rfl ?_ ?_
 ·
  intro ht
  have ht' := of_decide_eq_true ht
  have hse := sdL_el m (by omega)
  have hs2 : (el sdL m).length = 2 := by rw [hse]; with_unfolding_all rfl
  have f1 := rgNew_fc hr (el sdL m) 5 0 (by omega) (by decide) (Nat.zero_le _)
  have f2 := rgPublic_fc hr (el sdL m) 5 0 (by decide)
  have eA := vsA_app (keysP m) (keyT (seedT m) 5)
  rw [← keysP_succ, ← hse] at eA
  refine WP.skip (WP.seq (WP.block (WP.rs hG (Ch.mv rfl rfl (Ch.mv rfl rfl (Ch.p2 rfl rfl (OpS.indexM rfl rfl rfl (Int.toNat_natCast _) (by omega) (by omega) (by omega)) rfl ?_))))))
  refine Ch.p1 rfl (OpS.loadS rfl rfl) rfl ?_
  refine Ch.cH (f1) [] 1 gdN (.cons rfl (.cons rfl (.cons rfl .nil))) (.c (.rfl _) (.c (.rfl _) (.c (.rfl _) .n))) rfl (by refine ⟨?_, ?_, ?_, ?_⟩ <;> first | ((conv => lhs; simp only [nrmA, Nat.reduceAdd, renL_vs, renL_v1]); all_goals rfl) | rfl) (by exact trivial) (by exact ⟨rfl, rfl, trivial⟩) rfl ?_
  refine Ch.mv rfl rfl (Ch.p1 rfl (OpS.extract rfl) rfl (Ch.p1 rfl (OpS.extract rfl) rfl (Ch.asg rfl rfl (Ch.asg rfl rfl (Ch.nil (WP.rg hG (Ch.mv rfl rfl (Ch.mv rfl rfl ?_))))))))
  refine Ch.cH (f2) [1,2] 3 gdN (.cons rfl .nil) (.c (.rfl _) .n) rfl (by refine ⟨?_, ?_, ?_, ?_⟩ <;> first | ((conv => lhs; simp only [nrmA, Nat.reduceAdd, renL_vs, renL_v1]); all_goals rfl) | rfl) (by exact ⟨rfl, rfl, trivial⟩) (by exact trivial) rfl ?_
  refine Ch.pup gdN (by repeat (first | exact EvP.nil | (apply EvP.cons; exact rfl))) (OpS.build (cs := vA (keyT (el sdL m) 5)) rfl rfl rfl rfl rfl (by rfl)) rfl ?_
  refine Ch.pup gdN (by repeat (first | exact EvP.nil | (apply EvP.cons; exact rfl))) (OpS.buildSlice (n := 1) (sz := 2) (cs := vA (keyT (el sdL m) 5)) rfl rfl rfl rfl (by decide) (by decide) rfl rfl (by rfl) (by unfold maxLen; omega)) rfl ?_
  refine Ch.a2 rfl rfl (OpS.append (sz := 2) (bb := 24) 3 rfl rfl rfl rfl rfl (by decide) (SrcA.sl rfl (by exact rfl)) hfl rfl (by unfold maxLen; omega) rfl (by omega)) rfl rfl rfl ?_
  refine Ch.asg rfl rfl (Ch.nil (WP.rg hG (Ch.mv rfl rfl (Ch.p2 rfl rfl (OpS.inc m (by omega) (by omega)) rfl ?_))))
  refine Ch.asg rfl rfl (Ch.nil ?_)
  refine ⟨k - 1, _, by omega, (Ent.of [3] ?_ ?_ ?_ ?_).se, m + 1, by omega, rfl⟩
  · exact na_of hnA rfl
  · (repeat (first | exact trivial | (refine ⟨⟨(by first | trivial | (simp; first | done | fail)), _, rfl, (by first | exact .rfl _ | exact .of_eq (by simp [renL_vs, eA]; first | done | fail))⟩, ?_⟩)))
  · (repeat (first | exact trivial | (refine ⟨⟨rfl, (by trivial), (by rfl)⟩, ?_⟩)))
  exact nd_of rfl
 intro ht
 have ht' := of_decide_eq_false ht
 obtain rfl : m = 4 := by omega
 refine WP.exit (WP.rs hG (Ch.mv rfl rfl (Ch.asg rfl rfl (Ch.nil (WP.ret ?_)))))
 refine (Ret.of (rs := [0]) (vs := [.sl none (3 + 1) ((keysP 4).flatMap vA)]) (H' := []) (res := .sl none (3 + 1) ((keysP 4).flatMap vA)) [] ?_ ?_ rfl ?_ (by simp only [List.length_cons, List.length_nil]; decide) ?_).1
 · exact na_of hnA rfl
 · (repeat (first | exact trivial | (refine ⟨⟨(by (simp; first | done | fail)), _, rfl, (by exact AV.wk.sh (by simp [renL_vs]; first | done | fail))⟩, ?_⟩)))
 · (repeat (first | exact trivial | refine HFromL.skip ?_ | (refine ⟨⟨(by first | trivial | (simp; first | done | fail) | exact ⟨trivial, hbel _⟩), (by first | rfl | (simp [renL_vs]; first | done | fail) | (conv => rhs; simp only [AO.ren, AV.ren, AV.renL, Option.map_some, renL_vs]) <;> rfl)⟩, ?_⟩)))
 rfl
end
end Go.Proofs.YtpnbpcopdckgpaaGreatDoor.E
namespace Go.Proofs.YtpnbpcopdckgpaaGreatDoor.E
open Go Go.RowKit V
set_option maxRecDepth 4000
structure RI (x : Rp) (c : Nat) : Prop where
 good : Good x.d c x.s
 hc : x.c = UInt64.ofNat c
 lost : x.lost = false
 ld : loadT x.s = (x.vo, UInt64.ofNat x.n, firstT)
 wf : WfT x.tr
 bl : x.bs.length = x.tr.length
 b0 : (el x.bs 0).1 = firstT
 up : ∀ b, b < x.tr.length → prT x.tr b = 0 ∧ (vwT x.tr b).toNat ≤ x.vo.toNat
 lk : x.lk = 0
 lid : x.lid = firstT
 view : x.view.toNat ≤ x.vo.toNat + 1
 dead : x.dead = false
structure PN (n : Nt) : Prop where
 kind : n.kind = 1
 fr : n.fr = (leadT n.view : Int)
 pl : n.pl.length ≤ 200
 pa : n.pa = firstT
 id : n.id = idT n.view n.pa n.pl
 pos : 0 < n.view.toNat
 le : n.view.toNat ≤ 1000000
def learnR (x : Rp) (n : Nt) : Rp := { x with tr := x.tr ++ [(n.view, 1, 0)], bs := x.bs ++ [(n.id, n.pl, true)] }
def voteR (x : Rp) (n : Nt) (e : Dk) (c : Nat) : Rp := { learnR x n with d := e, s := recT n.view (x.n + 1) firstT, c := UInt64.ofNat c, lost := false, vo := n.view, lk := 0, lid := firstT, n := x.n + 1, sg := x.sg ++ [ballotT n.id], view := n.view + 1 }
def dieR (x : Rp) (n : Nt) (e : Dk) : Rp := { learnR x n with d := e, lost := true, dead := true }
theorem com_none {l : List TB} (h : ∀ b, b < l.length → prT l b = 0) {b : Nat} (hb : b < l.length) : comT l b = -1 := by
 unfold comT
 by_cases h0 : b = 0
 · exact if_pos h0
 rw [if_neg h0]
 exact comK_f (okT_f (fun hh => hh.1 (h b hb)))
theorem find_first {x : Rp} {c : Nat} (h : RI x c) : findT (idsT x.bs) firstT = ((0 : Nat) : Int) := by
 have hp := h.wf.pos
 refine findT_at (fun k hk => absurd hk (Nat.not_lt_zero _)) ?_
 rw [ids_get x.bs 0 (by rw [h.bl]; exact hp), h.b0]
theorem learnR_eq {x : Rp} (h : WfT x.tr) (n : Nt) : { x with tr := x.tr ++ [(n.view, htT x.tr 0 + 1, 0)], bs := x.bs ++ [(n.id, n.pl, true)] } = learnR x n := by
 unfold learnR
 rw [h.ht_0]
theorem learn_wf {x : Rp} (h : WfT x.tr) (n : Nt) (hl : x.tr.length < 256) : WfT (learnR x n).tr := by
 have := h.add n.view h.pos hl
 rw [h.ht_0] at this
 exact this
theorem learn_len (x : Rp) (n : Nt) : (learnR x n).tr.length = x.tr.length + 1 := by
 unfold learnR
 simp
theorem learn_up {x : Rp} {n : Nt} {m : Nat} (h : ∀ b, b < x.tr.length → prT x.tr b = 0 ∧ (vwT x.tr b).toNat ≤ m) (hn : n.view.toNat ≤ m) : ∀ b, b < (learnR x n).tr.length → prT (learnR x n).tr b = 0 ∧ (vwT (learnR x n).tr b).toNat ≤ m := by
 intro b hb
 rw [learn_len] at hb
 rcases Nat.lt_or_ge b x.tr.length with hlt | hge
 ·
  have := h b hlt
  unfold prT vwT at this ⊢
  show (tb (x.tr ++ [_]) b).2.2 = 0 ∧ (tb (x.tr ++ [_]) b).1.toNat ≤ m
  rw [tb_app x.tr _ hlt]
  exact this
 obtain rfl : b = x.tr.length := by omega
 unfold prT vwT
 show (tb (x.tr ++ [_]) _).2.2 = 0 ∧ (tb (x.tr ++ [_]) _).1.toNat ≤ m
 rw [tb_new]
 exact ⟨rfl, hn⟩
theorem learn_vw (x : Rp) (n : Nt) : vwT (learnR x n).tr x.tr.length = n.view := by
 unfold vwT
 show (tb (x.tr ++ [_]) _).1 = _
 rw [tb_new]
theorem learn_b0 {x : Rp} {c : Nat} (h : RI x c) (n : Nt) : (el (learnR x n).bs 0).1 = firstT := by
 have hp : 0 < x.bs.length := by rw [h.bl]; exact h.wf.pos
 have e : el (learnR x n).bs 0 = el x.bs 0 := by
  unfold el learnR
  show ((x.bs ++ [_])[0]?).getD _ = _
  rw [List.getElem?_append_left hp]
 rw [e]
 exact h.b0
theorem may_new {x : Rp} {n : Nt} (hw : WfT (learnR x n).tr) (hp : ∀ b, b < (learnR x n).tr.length → prT (learnR x n).tr b = 0) (h0 : 0 < x.tr.length) (hv : x.vo.toNat < n.view.toNat) : mayT (learnR x n).tr x.vo 0 x.tr.length = true := by
 have hb : x.tr.length < (learnR x n).tr.length := by rw [learn_len]; omega
 have hpr := hp _ hb
 rw [may_e (by omega) (by rw [learn_vw]; omega) (by rw [hpr]; exact Nat.lt_irrefl _)]
 unfold extT
 have hh := (hw.up x.tr.length h0 hb).2
 rw [hpr, hw.ht_0] at hh
 rw [hh, hw.ht_0]
 refine decide_eq_true ?_
 show 0 = upT _ 1 _
 unfold upT
 rw [hpr]
 rfl
theorem lk_new {x : Rp} {n : Nt} (hw : WfT (learnR x n).tr) (hp : ∀ b, b < (learnR x n).tr.length → prT (learnR x n).tr b = 0) (hk : x.lk = 0) : lkT (learnR x n) x.tr.length = 0 := by
 have hb : x.tr.length < (learnR x n).tr.length := by rw [learn_len]; omega
 have hg : gpT (learnR x n).tr x.tr.length = 0 := by
  unfold gpT
  rw [hp _ hb, hw.pr_0]
 unfold lkT
 rw [hg, show (learnR x n).lk = 0 from hk, if_neg (Nat.lt_irrefl _)]
theorem find_len {x : Rp} {id : Txt} {j : Nat} (h : findT (idsT x.bs) id = (j : Int)) : j < x.bs.length := by
 rcases findT_cases (idsT x.bs) id with ⟨h1, -⟩ | ⟨k, h1, h2, -⟩
 ·
  rw [h] at h1
  omega
 rw [h] at h1
 unfold idsT at h2
 rw [List.length_map] at h2
 omega
attribute [local irreducible] sum tag input beS rdNum rdText leavesT f64 tb sigT firstT leadT mayT lkT recT idT learnR
section
variable {G : List (Nat × Array Value)}
theorem step_rec (hsha : ShaIn G) {x : Rp} {c : Nat} (h : RI x c) {n : Nt} (hn : PN n) (hc : c + 1 < 250) (hx : x.n < 32) (hl : x.tr.length < 256) (hsg : x.sg.length ≤ 1000) (hsd : x.seed.length ≤ 1000) :
  ((∃ j : Nat, findT (idsT x.bs) n.id = (j : Int)) ∧ FP G 30 [.ptr 2 0, .agg (ntA n)] (rpH x) (.tup [.agg (ntA nt0), .v (.bool false)]) (rpH x)) ∨
  (findT (idsT x.bs) n.id = -1 ∧ n.view.toNat ≤ x.vo.toNat ∧ FP G 30 [.ptr 2 0, .agg (ntA n)] (rpH x) (.tup [.agg (ntA nt0), .v (.bool false)]) (rpL (learnR x n))) ∨
  (findT (idsT x.bs) n.id = -1 ∧ x.vo.toNat < n.view.toNat ∧ ∃ e, Good e (c + 1) (recT n.view (x.n + 1) firstT) ∧ (x.d.left = 0 → e.left = 0) ∧ FP G 30 [.ptr 2 0, .agg (ntA n)] (rpH x) (.tup [.agg (ntA (voteN (learnR x n) n)), .v (.bool true)]) (rpV (voteR x n e (c + 1)))) ∨
  (findT (idsT x.bs) n.id = -1 ∧ x.vo.toNat < n.view.toNat ∧ x.d.left ≠ 0 ∧ ∃ e, Pn e c x.s (recT n.view (x.n + 1) firstT) ∧ e.dead = true ∧ FP G 30 [.ptr 2 0, .agg (ntA n)] (rpH x) (.tup [.agg (ntA nt0), .v (.bool false)]) (rpL (dieR x n e))) := by
 obtain ⟨k1, k2, k3, k4, k5, k6, k7⟩ := hn
 have hpos := h.wf.pos
 have hpa : findT (idsT x.bs) n.pa = ((0 : Nat) : Int) := by rw [k4]; exact find_first h
 have hpal : n.pa.length ≤ 1000 := by rw [k4, firstT_32]; decide
 have hbs : x.bs.length ≤ 1000 := by rw [h.bl]; omega
 have hv0 : vwT x.tr 0 = 0 := h.wf.vw_0
 have hid32 : n.id.length = 32 := by rw [k5]; exact idT_32 _ _ _
 rcases findT_cases (idsT x.bs) n.id with ⟨hf, hno⟩ | ⟨j, hf, hj, -⟩
 ·
  refine .inr ?_
  have hne : n.id ≠ x.lid := by
   intro he
   rw [h.lid] at he
   have := find_first h
   rw [← he, hf] at this
   omega
  have hw1 := learn_wf h.wf n hl
  have hll := learn_len x n
  have fl := rLearnN_fc (G := G) x 0 n hf hbs hpos hl (by rw [h.wf.ht_0]; decide) (by rw [hv0]; exact k6) hne
  rw [learnR_eq h.wf n] at fl
  have hb : x.tr.length < (learnR x n).tr.length := by omega
  rcases Nat.lt_or_ge x.vo.toNat n.view.toNat with hlt | hge
  ·
   refine .inr ?_
   have hup := learn_up (x := x) (n := n) (m := n.view.toNat) (fun b hb => ⟨(h.up b hb).1, Nat.le_trans (h.up b hb).2 (Nat.le_of_lt hlt)⟩) (Nat.le_refl _)
   have hp1 : ∀ b, b < (learnR x n).tr.length → prT (learnR x n).tr b = 0 := fun b hb => (hup b hb).1
   have hcom := com_none hp1 hb
   have hm := may_new hw1 hp1 hpos hlt
   have hlk := lk_new hw1 hp1 h.lk
   have hr := recT_length n.view (x.n + 1) firstT
   rw [firstT_32] at hr
   have hview : ¬ n.view.toNat < x.view.toNat := by have := h.view; omega
   have hel : (el (learnR x n).bs (lkT (learnR x n) x.tr.length)).1 = firstT := by rw [hlk]; exact learn_b0 h n
   have hbl : (learnR x n).bs.length = (learnR x n).tr.length := by
    have := h.bl
    unfold learnR
    simp [this]
   have hkk : (learnR x n).lk < (learnR x n).tr.length := by
    rw [show (learnR x n).lk = x.lk by unfold learnR; rfl, h.lk]; omega
   have em : mayT (learnR x n).tr (learnR x n).vo (learnR x n).lk x.tr.length = true := by
    rw [show (learnR x n).lk = x.lk by unfold learnR; rfl, show (learnR x n).vo = x.vo by unfold learnR; rfl, h.lk]
    exact hm
   have en : (learnR x n).n = x.n := by unfold learnR; rfl
   have esg : (learnR x n).sg = x.sg := by unfold learnR; rfl
   have esd : (learnR x n).seed = x.seed := by unfold learnR; rfl
   have evw : (learnR x n).view = x.view := by unfold learnR; rfl
   have eds : (learnR x n).d = x.d ∧ (learnR x n).s = x.s ∧ (learnR x n).c = x.c ∧ (learnR x n).lost = x.lost := by unfold learnR; exact ⟨rfl, rfl, rfl, rfl⟩
   have hle2 : n.view.toNat ≤ 4611686018427387904 := by omega
   have goY : ∀ e, FP G 137 [.ptr 1 0, sA (recT n.view (x.n + 1) firstT)] (djH x.d x.s (UInt64.ofNat c) false) (.v (.int .i64 0)) (djH e (recT n.view (x.n + 1) firstT) (UInt64.ofNat (c + 1)) false) →
     FP G 30 [.ptr 2 0, .agg (ntA n)] (rpH x) (.tup [.agg (ntA (voteN (learnR x n) n)), .v (.bool true)]) (rpV (voteR x n e (c + 1))) := by
    intro e fs
    have fc := rCastY_fc hsha (learnR x n) hw1 x.tr.length hb hkk n (by rw [evw]; exact hview) hle2 (by rw [en]; exact hx) em hbl firstT hel (by rw [firstT_32]; decide) (by rw [hid32]; decide) (by rw [esg]; omega) (by rw [esd]; omega) e (recT n.view (x.n + 1) firstT) (UInt64.ofNat (c + 1)) false (by rw [eds.1, eds.2.1, eds.2.2.1, eds.2.2.2, h.hc, h.lost, en]; exact fs)
    rw [learn_vw, hlk, en, esg] at fc
    have fo := rOnV_fc hsha x (learnR x n) (voteR x n e (c + 1)) n (voteN (learnR x n) n) true x.tr.length hbs hpa k2 k3 hpal k5 ⟨hpos, by omega⟩ hv0 k6 ⟨by omega, by omega⟩ hw1 hb hcom fl fc
    exact rRecV_fc x _ n _ true k1 h.dead hle2 fo
   have goD : ∀ e, FP G 137 [.ptr 1 0, sA (recT n.view (x.n + 1) firstT)] (djH x.d x.s (UInt64.ofNat c) false) (.v (.int .i64 120)) (djH e x.s (UInt64.ofNat c) true) →
     FP G 30 [.ptr 2 0, .agg (ntA n)] (rpH x) (.tup [.agg (ntA nt0), .v (.bool false)]) (rpL (dieR x n e)) := by
    intro e fs
    have fc := rCastD_fc (G := G) (learnR x n) hw1 x.tr.length hb hkk n (by rw [evw]; exact hview) (by rw [en]; exact hx) em hbl firstT hel (by rw [firstT_32]; decide) e x.s (UInt64.ofNat c) true (by rw [eds.1, eds.2.1, eds.2.2.1, eds.2.2.2, h.hc, h.lost, en]; exact fs)
    have ee : ({ learnR x n with d := e, s := x.s, c := UInt64.ofNat c, lost := true, dead := true } : Rp) = dieR x n e := by
     unfold dieR
     rw [show (x.s) = (learnR x n).s from eds.2.1.symm, ← h.hc, ← eds.2.2.1]
    rw [ee] at fc
    have fo := rOnL_fc hsha x (learnR x n) (dieR x n e) n nt0 false x.tr.length hbs hpa k2 k3 hpal k5 ⟨hpos, by omega⟩ hv0 k6 ⟨by omega, by omega⟩ hw1 hb hcom fl fc
    exact rRecL_fc x _ n _ false k1 h.dead hle2 fo
   by_cases hleft : x.d.left = 0
   ·
    obtain ⟨e, ge, he0, -, fs⟩ := save_goes (G := G) h.good (t := recT n.view (x.n + 1) firstT) (by omega) hc hleft
    exact .inl ⟨hf, hlt, e, ge, fun _ => he0, goY e fs⟩
   rcases save_cases (G := G) h.good (t := recT n.view (x.n + 1) firstT) (by omega) hc with ⟨e, hp, hde, fs⟩ | ⟨e, ge, fs⟩
   · exact .inr ⟨hf, hlt, hleft, e, hp, hde, goD e fs⟩
   exact .inl ⟨hf, hlt, e, ge, fun h0 => absurd h0 hleft, goY e fs⟩
  refine .inl ⟨hf, hge, ?_⟩
  have hup := learn_up (x := x) (n := n) (m := x.vo.toNat) h.up hge
  have hp1 : ∀ b, b < (learnR x n).tr.length → prT (learnR x n).tr b = 0 := fun b hb => (hup b hb).1
  have hcom := com_none hp1 hb
  have hle2 : n.view.toNat ≤ 4611686018427387904 := by omega
  have evw : (learnR x n).view = x.view := by unfold learnR; rfl
  have en : (learnR x n).n = x.n := by unfold learnR; rfl
  have hkk : (learnR x n).lk < (learnR x n).tr.length := by
   rw [show (learnR x n).lk = x.lk by unfold learnR; rfl, h.lk]; omega
  have fc : FP G 98 [.ptr 2 0, .v (.int .i64 (x.tr.length : Int)), .agg (ntA n)] (rpH (learnR x n)) (.tup [.agg (ntA nt0), .v (.bool false)]) (rpH (learnR x n)) := by
   by_cases hvv : n.view.toNat < x.view.toNat
   · exact rCastV_fc (learnR x n) x.tr.length n (by rw [evw]; exact hvv)
   refine rCastM_fc (learnR x n) hw1 x.tr.length hb hkk n (by rw [evw]; exact hvv) (by rw [en]; exact hx) ?_
   refine may_f ?_
   rw [learn_vw, show (learnR x n).vo = x.vo by unfold learnR; rfl]
   exact hge
  have fo := rOnL_fc hsha x (learnR x n) (learnR x n) n nt0 false x.tr.length hbs hpa k2 k3 hpal k5 ⟨hpos, by omega⟩ hv0 k6 ⟨by omega, by omega⟩ hw1 hb hcom fl fc
  exact rRecL_fc x _ n _ false k1 h.dead hle2 fo
 refine .inl ⟨⟨j, hf⟩, ?_⟩
 have hj' : j < x.tr.length := by have := find_len hf; rw [h.bl] at this; exact this
 have hp1 : ∀ b, b < x.tr.length → prT x.tr b = 0 := fun b hb => (h.up b hb).1
 have hcom := com_none hp1 hj'
 have hle2 : n.view.toNat ≤ 4611686018427387904 := by omega
 have fl := rLearnK_fc (G := G) x 0 n j hf hbs
 have fc : FP G 98 [.ptr 2 0, .v (.int .i64 (j : Int)), .agg (ntA n)] (rpH x) (.tup [.agg (ntA nt0), .v (.bool false)]) (rpH x) := by
  by_cases hvv : n.view.toNat < x.view.toNat
  · exact rCastV_fc x j n hvv
  exact rCastM_fc x h.wf j hj' (by rw [h.lk]; exact hpos) n hvv hx (may_f (h.up j hj').2)
 have fo := rOnK_fc hsha x x x n nt0 false j hbs hpa k2 k3 hpal k5 ⟨hpos, by omega⟩ hv0 k6 ⟨hpos, by omega⟩ h.wf hj' hcom fl fc
 exact rRecK_fc x _ n _ false k1 h.dead hle2 fo
theorem RI.vote {x : Rp} {c : Nat} (h : RI x c) {n : Nt} {e : Dk} (hl : x.tr.length < 256) (hx : x.n < 32) (hle : n.view.toNat ≤ 1000000) (hv : x.vo.toNat < n.view.toNat) (ge : Good e (c + 1) (recT n.view (x.n + 1) firstT)) : RI (voteR x n e (c + 1)) (c + 1) := by
 have hb0 := learn_b0 h n
 have hw := learn_wf h.wf n hl
 have hup := learn_up (x := x) (n := n) (m := n.view.toNat) (fun b hb => ⟨(h.up b hb).1, Nat.le_trans (h.up b hb).2 (Nat.le_of_lt hv)⟩) (Nat.le_refl _)
 have hbl : (learnR x n).bs.length = (learnR x n).tr.length := by
  have := h.bl
  unfold learnR
  simp [this]
 have hs := succ_nat (v := n.view) (by omega)
 have hld := load_rec n.view (x.n + 1) firstT (by rw [firstT_32]; decide) (by omega)
 have hd := h.dead
 unfold voteR
 unfold learnR at hb0 hw hup hbl ⊢
 exact ⟨ge, rfl, rfl, hld, hw, hbl, hb0, hup, rfl, rfl, by show (n.view + 1).toNat ≤ n.view.toNat + 1; omega, hd⟩
theorem RI.new {d : Dk} {c : Nat} {s : Txt} (hg : Good d c s) (v : UInt64) (me : Nat) (ks : List Txt) (seed : Txt) (n : Nat) (hld : loadT s = (v, UInt64.ofNat n, firstT)) : RI (rp0 d s c v me ks seed n) c :=
 ⟨hg, rfl, rfl, hld, wf_one, rfl, rfl, (fun b hb => by
  obtain rfl : b = 0 := by simpa [rp0] using hb
  refine ⟨wf_one.pr_0, ?_⟩
  rw [show vwT (rp0 d s c v me ks seed n).tr 0 = 0 from wf_one.vw_0]
  exact Nat.zero_le _), rfl, rfl, (by show (1 : UInt64).toNat ≤ _; exact Nat.le_add_left _ _), rfl⟩
end
end Go.Proofs.YtpnbpcopdckgpaaGreatDoor.E
namespace Go.Proofs.YtpnbpcopdckgpaaGreatDoor.V
theorem id_unlike_F : sumF (input 12 [beS 1 8, sumF (input 12 []), [112]]) ≠ sumF (input 12 []) := by decide +kernel
theorem id_unlike : idT 1 firstT [112] ≠ firstT := by
 unfold idT firstT
 rw [tag_fast, tag_fast]
 exact id_unlike_F
end Go.Proofs.YtpnbpcopdckgpaaGreatDoor.V
namespace Go.Proofs.YtpnbpcopdckgpaaGreatDoor.E
open Go Go.RowKit V
set_option maxRecDepth 4000
set_option maxRecDepth 4000
theorem keys_take : ((keysP 4).flatMap vA).take (3 * 2) = (keysP 3).flatMap vA := by
 have h := flatA_len vA 2 vA_len (keysP 3)
 rw [keysP_len] at h
 rw [keysP_succ 3, List.flatMap_append]
 exact List.take_left' h
theorem renL_tk (π : Nat → Nat) : AV.renL π (((keysP 4).flatMap vA).take (3 * 2)) = ((keysP 4).flatMap vA).take (3 * 2) := by
 rw [keys_take]
 exact renL_vs _ _
theorem RI.prop {x : Rp} {c : Nat} (h : RI x c) (p : UInt64) : RI { x with prop := p } c := ⟨h.good, h.hc, h.lost, h.ld, h.wf, h.bl, h.b0, h.up, h.lk, h.lid, h.view, h.dead⟩
theorem RI.turn {x : Rp} {c : Nat} (h : RI x c) : (el x.bs 0).1 = firstT ∧ 0 < x.bs.length := ⟨h.b0, by rw [h.bl]; exact h.wf.pos⟩
theorem find_one {id : Txt} {j : Nat} (h : findT [firstT] id = (j : Int)) : id = firstT := by
 rcases findT_cases [firstT] id with ⟨h1, -⟩ | ⟨k, h1, h2, h3⟩
 ·
  rw [h] at h1
  omega
 have h2' : k < 1 := h2
 obtain rfl : k = 0 := by omega
 simpa using h3.symm
theorem find_last {l : List Bk} {p : Bk} : findT (idsT (l ++ [p])) p.1 ≠ -1 := by
 intro h
 rcases findT_cases (idsT (l ++ [p])) p.1 with ⟨-, h2⟩ | ⟨k, h1, -, -⟩
 ·
  refine h2 l.length ?_
  unfold idsT
  simp
 rw [h] at h1
 omega
attribute [local irreducible] sum tag input beS rdNum rdText leavesT f64 tb sigT firstT leadT mayT lkT recT idT learnR voteR dieR keysP keyT propN turnN voteN ballotT
section
variable {G : List (Nat × Array Value)}
theorem new0_fc (hm : ShaIn G) : FP G 23 [.v (.int .i64 0), .sl none 4 ((keysP 4).flatMap vA), sA [114, 97], .ptr 0 0] (dkH (nd 2)) (.ptr 2 0) (rpH (rp0 (nd 2) [] 0 0 0 (keysP 4) [114, 97] 0)) :=
 rNew_fc hm 0 (by decide) (keysP 4) (keysP_len 4) keys40 keys_nd [114, 97] (by decide) (nd 2) 0 [] good_new 0 0 (by decide) load_nil
theorem new4_fc : FP G 23 [.v (.int .i64 4), .sl none 4 ((keysP 4).flatMap vA), sA [114, 97], .ptr 0 0] (dkH (nd 2)) (.v (.pointer none)) (dkH (nd 2)) := by
 have h := rNewMe_fc (G := G) 4 (by decide) (by decide) (keysP 4) [114, 97] (nd 2) 0 [] good_new
 rw [keysP_len] at h
 exact h
theorem new3_fc : FP G 23 [.v (.int .i64 0), .sl none 3 (((keysP 4).flatMap vA).take (3 * 2)), sA [114, 97], .ptr 0 0] (dkH (nd 2)) (.v (.pointer none)) (dkH (nd 2)) := by
 have h := rNewLen_fc (G := G) 0 (by decide) (keysP 3) (by rw [keysP_len]; decide) (by rw [keysP_len]; decide) [114, 97] (nd 2) 0 [] good_new
 rw [keysP_len] at h
 rw [keys_take]
 exact h
theorem lead1 : leadT 1 = 0 := by with_unfolding_all rfl
theorem lead2 : leadT 2 = 0 := by with_unfolding_all rfl
theorem lead4 : leadT 4 = 1 := by with_unfolding_all rfl
theorem awake_run (hsha : ShaIn G) : ∃ x1 x2 x3 : Rp, ∃ n v t : Nt,
  (n.view = 1 ∧ n.pa = firstT ∧ n.id = idT 1 firstT [112]) ∧ (v.kind = 2 ∧ v.rcp = 0) ∧ t.view = 3 ∧
  FP G 29 [.ptr 2 0, sA [112]] (rpH (rp0 (nd 2) [] 0 0 0 (keysP 4) [114, 97] 0)) (.tup [.agg (ntA n), .v (.bool true)]) (rpH x1) ∧
  FP G 30 [.ptr 2 0, .agg (ntA n)] (rpH x1) (.tup [.agg (ntA v), .v (.bool true)]) (rpV x2) ∧
  FP G 30 [.ptr 2 0, .agg (ntA n)] (rpH x2) (.tup [.agg (ntA nt0), .v (.bool false)]) (rpH x2) ∧
  FP G 28 [.ptr 2 0] (rpH x2) (.tup [.agg (ntA t), .v (.bool true)]) (rpH x3) ∧
  FP G 27 [.ptr 2 0] (rpH x3) (.v (.int .u64 3)) (rpH x3) ∧
  FP G 34 [.ptr 2 0] (rpH x3) (.sl none 1 (x3.sg.map sA)) (rpH x3) ∧
  FP G 36 [.ptr 2 0] (rpH x3) (.v (.bool true)) (rpH x3) := by
 obtain ⟨x0, h0⟩ : ∃ x, x = rp0 (nd 2) [] 0 0 0 (keysP 4) [114, 97] 0 := ⟨_, rfl⟩
 rw [← h0]
 have r0 : RI x0 0 := by rw [h0]; exact RI.new good_new 0 0 (keysP 4) [114, 97] 0 load_nil
 have hv : x0.view = 1 := by rw [h0]; rfl
 have hp : x0.prop = 0 := by rw [h0]; rfl
 have hme : x0.me = 0 := by rw [h0]; rfl
 have hbs0 : x0.bs = [(firstT, [], false)] := by rw [h0]; rfl
 have hvo : x0.vo = 0 := by rw [h0]; rfl
 have hl : x0.d.left = 0 := by rw [h0]; rfl
 have hn0 : x0.n = 0 := by rw [h0]; rfl
 have htr : x0.tr.length = 1 := by rw [h0]; rfl
 have hsg : x0.sg = [] := by rw [h0]; rfl
 have hsd : x0.seed.length = 2 := by rw [h0]; rfl
 have fP := rPropV_fc hsha x0 r0.dead firstT [112] r0.turn.2 r0.turn.1 (by rw [firstT_32]; decide) (by rw [hv, hme]; exact lead1) (by decide) (by rw [hp, hv]; decide) ⟨by omega, by omega⟩ r0.wf.vw_0 hv
 have r1 := r0.prop x0.view
 obtain ⟨x1, h1⟩ : ∃ y : Rp, y = { x0 with prop := x0.view } := ⟨_, rfl⟩
 rw [← h1] at fP r1
 obtain ⟨n, hn⟩ : ∃ n, n = propN x0 firstT [112] := ⟨_, rfl⟩
 rw [← hn] at fP
 have n1 : n.kind = 1 := by rw [hn]; with_unfolding_all rfl
 have n2 : n.fr = (leadT n.view : Int) := by
  have : n.fr = (x0.me : Int) ∧ n.view = x0.view := by rw [hn]; exact ⟨by with_unfolding_all rfl, by with_unfolding_all rfl⟩
  rw [this.1, this.2, hv, hme, lead1]
 have n3 : n.view = 1 := by rw [← hv, hn]; with_unfolding_all rfl
 have n4 : n.pa = firstT := by rw [hn]; with_unfolding_all rfl
 have n5 : n.pl = [112] := by rw [hn]; with_unfolding_all rfl
 have n6 : n.id = idT 1 firstT [112] := by rw [← hv, hn]; with_unfolding_all rfl
 have pn : PN n := ⟨n1, n2, by rw [n5]; decide, n4, by rw [n6, n3, n4, n5], by rw [n3]; decide, by rw [n3]; decide⟩
 have b1 : x1.bs = x0.bs ∧ x1.vo = x0.vo ∧ x1.d = x0.d ∧ x1.n = x0.n ∧ x1.tr = x0.tr ∧ x1.sg = x0.sg ∧ x1.seed = x0.seed := by rw [h1]; exact ⟨rfl, rfl, rfl, rfl, rfl, rfl, rfl⟩
 obtain ⟨c1, c2, c3, c4, c5, c6, c7⟩ := b1
 rcases step_rec hsha r1 pn (by decide) (by omega) (by rw [c5]; omega) (by rw [c6, hsg]; decide) (by rw [c7, hsd]; decide) with ⟨⟨j, hj⟩, -⟩ | ⟨-, hle, -⟩ | ⟨hf, hlt, e, ge, he, fR⟩ | ⟨-, -, hle, -⟩
 ·
  rw [c1, hbs0, n6] at hj
  exact absurd (find_one hj) id_unlike
 ·
  rw [n3, c2, hvo] at hle
  exact absurd hle (by decide)
 ·
  have r2 := r1.vote (by rw [c5]; omega) (by omega) (by rw [n3]; decide) hlt ge
  obtain ⟨x2, h2⟩ : ∃ y, y = voteR x1 n e (0 + 1) := ⟨_, rfl⟩
  rw [← h2] at fR r2
  have d1 : x2.bs = x1.bs ++ [(n.id, n.pl, true)] := by rw [h2]; with_unfolding_all rfl
  have d2 : x2.n = x1.n + 1 := by rw [h2]; with_unfolding_all rfl
  have d3 : x2.tr.length = x1.tr.length + 1 := by
   have h := learn_len x1 n
   rw [h2]
   with_unfolding_all exact h
  have d4 : x2.sg = x1.sg ++ [ballotT n.id] := by rw [h2]; with_unfolding_all rfl
  have d5 : x2.seed = x1.seed := by rw [h2]; with_unfolding_all rfl
  have d6 : x2.view = n.view + 1 := by rw [h2]; with_unfolding_all rfl
  have ls : x2.sg.length = 0 + 1 := by rw [d4, c6, hsg]; rfl
  obtain ⟨v, hvv⟩ : ∃ v, v = voteN (learnR x1 n) n := ⟨_, rfl⟩
  rw [← hvv] at fR
  have v1 : v.kind = 2 := by rw [hvv]; with_unfolding_all rfl
  have v2 : v.rcp = (leadT (n.view + 1) : Int) := by rw [hvv]; with_unfolding_all rfl
  rw [n3, show ((1 : UInt64) + 1) = 2 from rfl, lead2] at v2
  have fT := rTurn_fc (G := G) x2 r2.dead firstT r2.turn.2 r2.turn.1
  obtain ⟨x3, h3⟩ : ∃ y : Rp, y = { x2 with view := x2.view + 1 } := ⟨_, rfl⟩
  rw [← h3] at fT
  have w3 : x3.view = 3 := by rw [h3]; show x2.view + 1 = 3; rw [d6, n3]; rfl
  have s3 : x3.sg = x2.sg := by rw [h3]
  have a3 : x3.dead = false := by rw [h3]; exact r2.dead
  have fV := rView_fc (G := G) x3
  rw [w3] at fV
  have fS := rSigned_fc (G := G) x3 0 (by rw [s3]; exact ls) (by decide)
  have fA := rAlive_fc (G := G) x3
  rw [a3] at fA
  rcases step_rec hsha r2 pn (by decide) (by omega) (by rw [d3, c5]; omega) (by omega) (by rw [d5, c7, hsd]; decide) with ⟨-, fK⟩ | ⟨hf2, -⟩ | ⟨hf2, -⟩ | ⟨hf2, -⟩
  ·
   refine ⟨x1, x2, x3, n, v, turnN x2 firstT, ⟨n3, n4, n6⟩, ⟨v1, v2⟩, ?_, fP, fR, fK, fT, fV, fS, fA⟩
   have : (turnN x2 firstT).view = x2.view + 1 := by with_unfolding_all rfl
   rw [this, d6, n3]
   rfl
  all_goals
   rw [d1] at hf2
   exact absurd hf2 (find_last (p := (n.id, n.pl, true)))
 exact absurd (by rw [c3]; exact hl) hle
theorem rawake_fc (hm : ShaIn G) (hr : RefIn G) : FP G 10 [] [] (.v (.bool true)) [] := by
 obtain ⟨x1, x2, x3, n, v, t, ⟨n3, n4, n6⟩, ⟨v1, v2⟩, t3, fP, fR, fK, fT, fV, fS, fA⟩ := awake_run hm
 obtain ⟨x0, h0⟩ : ∃ x, x = rp0 (nd 2) [] 0 0 0 (keysP 4) [114, 97] 0 := ⟨_, rfl⟩
 rw [← h0] at fP
 have f0 := new0_fc hm
 rw [← h0] at f0
 have hd : nd 2 = x0.d := by rw [h0]; with_unfolding_all rfl
 have f3 := new3_fc (G := G)
 have f4 := new4_fc (G := G)
 rw [hd] at f3 f4
 have e1 : Value.bool (U64 n.view == 1) = .bool true := by rw [n3]; rfl
 have e2 : Value.bool (v.kind == 2) = .bool true := by rw [v1]; rfl
 have e3 : Value.bool (v.rcp == 0) = .bool true := by rw [v2]; rfl
 have e4 : Value.bool (U64 t.view == 3) = .bool true := by rw [t3]; rfl
 have fI := rID_fc hm 1 firstT [112] (by rw [firstT_32]; decide)
 have fF := rFirst_fc hm
 have fL := rLead_fc (G := G) 4
 rw [lead4] at fL
 refine FC.of_wp [0] Tryz.func10 rfl rfl rfl rfl (by trivial) (by trivial) (Nat.le_of_ble_eq_true rfl) ?_
 intro A hG hnA hAB
 unfold start
 refine WP.rs hG (Ch.asg rfl rfl (Ch.nil (WP.rs hG (Ch.callS (vals_fc hr) gdN .nil .n (by simp) rfl ?_))))
 refine Ch.asg rfl rfl (Ch.nil (WP.rs hG ?_))
 refine Ch.cH (newDisk_fc) [] 0 gdN .nil .n rfl (by refine ⟨?_, ?_, ?_, ?_⟩ <;> first | ((conv => lhs; simp only [nrmA, Nat.reduceAdd, renL_tbs, renL_tb1, renL_bks, renL_b1, renL_vs, renL_v1, ren_vt, pend_ren, ren_ss]); all_goals rfl) | rfl) (by exact trivial) (by exact ⟨rfl, trivial⟩) rfl ?_
 refine Ch.asg rfl rfl (Ch.nil (WP.seq (WP.rs hG (Ch.mv rfl rfl (Ch.p2 rfl rfl (OpS.eqNil (.p _ _) rfl) rfl (Ch.nil (WP.cond_false rfl (WP.skip (WP.rs hG ?_)))))))))
 refine Ch.mv rfl rfl (Ch.mv rfl rfl ?_)
 refine Ch.cH (f0) [0] 1 gdN (.cons rfl (.cons rfl (.cons rfl (.cons rfl .nil)))) (.c (.rfl _) (.c (AV.wk.sh (by simp; first | done | fail)) (.c (.rfl _) (.c (.rfl _) .n)))) rfl (by refine ⟨?_, ?_, ?_, ?_⟩ <;> first | ((conv => lhs; simp only [nrmA, Nat.reduceAdd, renL_tbs, renL_tb1, renL_bks, renL_b1, renL_vs, renL_v1, ren_vt, pend_ren, ren_ss]); all_goals rfl) | rfl) (by exact ⟨rfl, trivial⟩) (by exact ⟨rfl, rfl, rfl, rfl, rfl, rfl, rfl, rfl, rfl, trivial⟩) rfl ?_
 refine Ch.asg rfl rfl (Ch.nil (WP.seq (WP.rs hG (Ch.mv rfl rfl (Ch.p2 rfl rfl (OpS.eqNil (.p _ _) rfl) rfl (Ch.mv rfl rfl (Ch.gm rfl rfl rfl rfl (Ch.gm rfl rfl rfl rfl ?_))))))))
 refine Ch.cH (f4) [0] 10 (gdT rfl rfl) (.cons rfl (.cons rfl (.cons rfl (.cons rfl .nil)))) (.c (.rfl _) (.c (AV.wk.sh (by simp; first | done | fail)) (.c (.rfl _) (.c (.rfl _) .n)))) rfl (by refine ⟨?_, ?_, ?_, ?_⟩ <;> first | ((conv => lhs; simp only [nrmA, Nat.reduceAdd, renL_tbs, renL_tb1, renL_bks, renL_b1, renL_vs, renL_v1, ren_vt, pend_ren, ren_ss]); all_goals rfl) | rfl) (by exact ⟨rfl, trivial⟩) (by exact trivial) rfl ?_
 refine Ch.g2 rfl rfl rfl rfl (OpS.neNilN rfl) rfl (Ch.p2 rfl rfl (OpS.pickF) rfl (Ch.mv rfl rfl (Ch.gm rfl rfl rfl rfl (Ch.g2 rfl rfl rfl rfl (OpS.slH (m := 3) (sz := 2) rfl rfl rfl rfl (by decide) (by decide)) rfl ?_))))
 refine Ch.gm rfl rfl rfl rfl ?_
 refine Ch.cH (f3) [0] 10 (gdT rfl rfl) (.cons rfl (.cons rfl (.cons rfl (.cons rfl .nil)))) (.c (.rfl _) (.c (AV.wk.sh (renL_tk _)) (.c (.rfl _) (.c (.rfl _) .n)))) rfl (by refine ⟨?_, ?_, ?_, ?_⟩ <;> first | ((conv => lhs; simp only [nrmA, Nat.reduceAdd, renL_tbs, renL_tb1, renL_bks, renL_b1, renL_vs, renL_v1, ren_vt, pend_ren, ren_ss]); all_goals rfl) | rfl) (by exact ⟨rfl, trivial⟩) (by exact trivial) rfl ?_
 refine Ch.g2 rfl rfl rfl rfl (OpS.neNilN rfl) rfl (Ch.p2 rfl rfl (OpS.pickF) rfl (Ch.nil (WP.cond_false rfl (WP.skip (WP.rs hG (Ch.mv rfl rfl ?_))))))
 refine Ch.cH (fP) [0,1,2,3,4,5,6,7,8,9] 10 gdN (.cons rfl (.cons rfl .nil)) (.c (.rfl _) (.c (.rfl _) .n)) rfl (by refine ⟨?_, ?_, ?_, ?_⟩ <;> first | ((conv => lhs; simp only [nrmA, Nat.reduceAdd, renL_tbs, renL_tb1, renL_bks, renL_b1, renL_vs, renL_v1, ren_vt, pend_ren, ren_ss]); all_goals rfl) | rfl) (by exact ⟨rfl, rfl, rfl, rfl, rfl, rfl, rfl, rfl, rfl, rfl, trivial⟩) (by exact trivial) rfl ?_
 refine Ch.mv rfl rfl (Ch.p1 rfl (OpS.extract rfl) rfl (Ch.p1 rfl (OpS.extract rfl) rfl (Ch.a0 (OpS.alloc 10 rfl rfl rfl) rfl rfl (Ch.ws rfl rfl (OpS.storePA (cs := ntA nt0) (c := .agg (ntA n)) rfl rfl (nt_one n) (by exact Nat.le_refl 9)) rfl ?_))))
 refine Ch.asg rfl rfl (Ch.nil (WP.rs hG (Ch.mv rfl rfl (Ch.q1 rfl (OpS.loadPA (off := 0) (sz := 9) (cs := ntA n) rfl rfl rfl rfl (by exact Nat.le_refl 9)) rfl rfl ?_))))
 refine Ch.cH (fR) [0,1,2,3,4,5,6,7,8,9] 11 gdN (.cons rfl (.cons rfl .nil)) (.c (.rfl _) (.c (.of_eq (ren_nt _ _).symm) .n)) rfl (by refine ⟨?_, ?_, ?_, ?_⟩ <;> first | ((conv => lhs; simp only [nrmA, Nat.reduceAdd, renL_tbs, renL_tb1, renL_bks, renL_b1, renL_vs, renL_v1, ren_vt, pend_ren, ren_ss]); all_goals rfl) | rfl) (by exact ⟨rfl, rfl, rfl, rfl, rfl, rfl, rfl, rfl, rfl, rfl, trivial⟩) (by exact ⟨rfl, rfl, rfl, trivial⟩) rfl ?_
 refine Ch.mv rfl rfl (Ch.p1 rfl (OpS.extract rfl) rfl (Ch.p1 rfl (OpS.extract rfl) rfl (Ch.a0 (OpS.alloc 14 rfl rfl rfl) rfl rfl (Ch.ws rfl rfl (OpS.storePA (cs := ntA nt0) (c := .agg (ntA v)) rfl rfl (nt_one v) (by exact Nat.le_refl 9)) rfl ?_))))
 refine Ch.asg rfl rfl (Ch.nil (WP.rs hG (Ch.mv rfl rfl (Ch.q1 rfl (OpS.loadPA (off := 0) (sz := 9) (cs := ntA n) rfl rfl rfl rfl (by exact Nat.le_refl 9)) rfl rfl ?_))))
 refine Ch.cH (fK) [0,1,2,3,11,12,6,7,8,13] 15 gdN (.cons rfl (.cons rfl .nil)) (.c (.rfl _) (.c (.of_eq (ren_nt _ _).symm) .n)) rfl (by refine ⟨?_, ?_, ?_, ?_⟩ <;> first | ((conv => lhs; simp only [nrmA, Nat.reduceAdd, renL_tbs, renL_tb1, renL_bks, renL_b1, renL_vs, renL_v1, ren_vt, pend_ren, ren_ss]); all_goals rfl) | rfl) (by exact ⟨rfl, rfl, rfl, rfl, rfl, rfl, rfl, rfl, rfl, rfl, trivial⟩) (by exact trivial) rfl ?_
 refine Ch.mv rfl rfl (Ch.p1 rfl (OpS.extract rfl) rfl (Ch.p1 rfl (OpS.extract rfl) rfl (Ch.a0 (OpS.alloc 15 rfl rfl rfl) rfl rfl (Ch.ws rfl rfl (OpS.storePA (cs := ntA nt0) (c := .agg (ntA nt0)) rfl rfl (nt_one nt0) (by exact Nat.le_refl 9)) rfl ?_))))
 refine Ch.asg rfl rfl (Ch.nil (WP.rs hG (Ch.mv rfl rfl ?_)))
 refine Ch.cH (fT) [0,1,2,3,11,12,6,7,8,13] 16 gdN (.cons rfl .nil) (.c (.rfl _) .n) rfl (by refine ⟨?_, ?_, ?_, ?_⟩ <;> first | ((conv => lhs; simp only [nrmA, Nat.reduceAdd, renL_tbs, renL_tb1, renL_bks, renL_b1, renL_vs, renL_v1, ren_vt, pend_ren, ren_ss]); all_goals rfl) | rfl) (by exact ⟨rfl, rfl, rfl, rfl, rfl, rfl, rfl, rfl, rfl, rfl, trivial⟩) (by exact trivial) rfl ?_
 refine Ch.mv rfl rfl (Ch.p1 rfl (OpS.extract rfl) rfl (Ch.p1 rfl (OpS.extract rfl) rfl (Ch.a0 (OpS.alloc 16 rfl rfl rfl) rfl rfl (Ch.ws rfl rfl (OpS.storePA (cs := ntA nt0) (c := .agg (ntA t)) rfl rfl (nt_one t) (by exact Nat.le_refl 9)) rfl ?_))))
 refine Ch.asg rfl rfl (Ch.nil (WP.rsD (by kernel_rfl) hG (Ch.mv rfl rfl (Ch.mv rfl rfl (Ch.gm rfl rfl rfl rfl (Ch.p2 rfl rfl (OpS.pickT) rfl (Ch.mv rfl rfl (Ch.gm rfl rfl rfl rfl (Ch.g1 rfl rfl rfl (OpS.not) rfl ?_)))))))))
 refine Ch.p2 rfl rfl (OpS.pickT) rfl (Ch.mv rfl rfl (Ch.gm rfl rfl rfl rfl (Ch.p2 rfl rfl (OpS.pickT) rfl (Ch.mv rfl rfl (Ch.g1 rfl rfl rfl (OpS.fieldAddr rfl rfl rfl rfl) rfl (Ch.pu (by exact gdT rfl rfl) (by exact ⟨rfl, trivial⟩) (OpS.loadP rfl rfl rfl) (by exact ⟨rfl, trivial⟩) rfl ?_))))))
 refine Ch.g2 rfl rfl rfl rfl (OpS.int (op := .eql) (v' := .bool true) rfl (by exact e1)) rfl ?_
 refine Ch.p2 rfl rfl (OpS.pickT) rfl (Ch.mv rfl rfl (Ch.g1 rfl rfl rfl (OpS.fieldAddr rfl rfl rfl rfl) rfl (Ch.pu (by exact gdT rfl rfl) (by exact ⟨rfl, trivial⟩) (OpS.loadP rfl rfl rfl) (by exact ⟨rfl, trivial⟩) rfl ?_)))
 refine Ch.callP (fF) (gdT rfl rfl) .nil .n (by rfl) rfl ?_
 refine Ch.g2 rfl rfl rfl rfl (OpS.strEqB (c := true) (by rw [n4]; simp)) rfl ?_
 refine Ch.p2 rfl rfl (OpS.pickT) rfl (Ch.mv rfl rfl (Ch.g1 rfl rfl rfl (OpS.fieldAddr rfl rfl rfl rfl) rfl (Ch.pu (by exact gdT rfl rfl) (by exact ⟨rfl, trivial⟩) (OpS.loadP rfl rfl rfl) (by exact ⟨rfl, trivial⟩) rfl ?_)))
 refine Ch.callP (fF) (gdT rfl rfl) .nil .n (by rfl) rfl ?_
 refine Ch.callP (fI) (gdT rfl rfl) (.cons rfl (.cons rfl (.cons rfl .nil))) (.c (.rfl _) (.c (.rfl _) (.c (.rfl _) .n))) (by rfl) rfl ?_
 refine Ch.g2 rfl rfl rfl rfl (OpS.strEqB (c := true) (by rw [n6]; simp)) rfl ?_
 refine Ch.p2 rfl rfl (OpS.pickT) rfl (Ch.mv rfl rfl (Ch.g1 rfl rfl rfl (OpS.fieldAddr rfl rfl rfl rfl) rfl (Ch.pu (by exact gdT rfl rfl) (by exact ⟨rfl, trivial⟩) (OpS.loadP rfl rfl rfl) (by exact ⟨rfl, trivial⟩) rfl ?_)))
 refine Ch.g2 rfl rfl rfl rfl (OpS.int (op := .eql) (v' := .bool true) rfl (by exact e2)) rfl ?_
 refine Ch.p2 rfl rfl (OpS.pickT) rfl (Ch.mv rfl rfl (Ch.g1 rfl rfl rfl (OpS.fieldAddr rfl rfl rfl rfl) rfl (Ch.pu (by exact gdT rfl rfl) (by exact ⟨rfl, trivial⟩) (OpS.loadP rfl rfl rfl) (by exact ⟨rfl, trivial⟩) rfl ?_)))
 refine Ch.g2 rfl rfl rfl rfl (OpS.int (op := .eql) (v' := .bool true) rfl (by exact e3)) rfl ?_
 refine Ch.p2 rfl rfl (OpS.pickT) rfl (Ch.mv rfl rfl (Ch.gm rfl rfl rfl rfl ?_))
 refine Ch.cH (fV) [0,1,2,3,11,12,6,7,8,13] 17 (gdT rfl rfl) (.cons rfl .nil) (.c (.rfl _) .n) rfl (by refine ⟨?_, ?_, ?_, ?_⟩ <;> first | ((conv => lhs; simp only [nrmA, Nat.reduceAdd, renL_tbs, renL_tb1, renL_bks, renL_b1, renL_vs, renL_v1, ren_vt, pend_ren, ren_ss]); all_goals rfl) | rfl) (by exact ⟨rfl, rfl, rfl, rfl, rfl, rfl, rfl, rfl, rfl, rfl, trivial⟩) (by exact trivial) rfl ?_
 refine Ch.g2 rfl rfl rfl rfl (OpS.int (op := .eql) (v' := .bool true) rfl (by exact rfl)) rfl ?_
 refine Ch.p2 rfl rfl (OpS.pickT) rfl (Ch.mv rfl rfl (Ch.g1 rfl rfl rfl (OpS.fieldAddr rfl rfl rfl rfl) rfl (Ch.pu (by exact gdT rfl rfl) (by exact ⟨rfl, trivial⟩) (OpS.loadP rfl rfl rfl) (by exact ⟨rfl, trivial⟩) rfl ?_)))
 refine Ch.g2 rfl rfl rfl rfl (OpS.int (op := .eql) (v' := .bool true) rfl (by exact e4)) rfl ?_
 refine Ch.p2 rfl rfl (OpS.pickT) rfl (Ch.mv rfl rfl (Ch.gm rfl rfl rfl rfl ?_))
 refine Ch.cH (fS) [0,1,2,3,11,12,6,7,8,13] 17 (gdT rfl rfl) (.cons rfl .nil) (.c (.rfl _) .n) rfl (by refine ⟨?_, ?_, ?_, ?_⟩ <;> first | ((conv => lhs; simp only [nrmA, Nat.reduceAdd, renL_tbs, renL_tb1, renL_bks, renL_b1, renL_vs, renL_v1, ren_vt, pend_ren, ren_ss]); all_goals rfl) | rfl) (by exact ⟨rfl, rfl, rfl, rfl, rfl, rfl, rfl, rfl, rfl, rfl, trivial⟩) (by exact trivial) rfl ?_
 refine Ch.g1 rfl rfl rfl (OpS.len rfl) rfl (Ch.g2 rfl rfl rfl rfl (OpS.int (op := .eql) (v' := .bool true) rfl (by exact rfl)) rfl ?_)
 refine Ch.p2 rfl rfl (OpS.pickT) rfl (Ch.mv rfl rfl (Ch.callP (fL) (gdT rfl rfl) (.cons rfl .nil) (.c (.rfl _) .n) (by rfl) rfl ?_))
 refine Ch.g2 rfl rfl rfl rfl (OpS.int (op := .eql) (v' := .bool true) rfl (by exact rfl)) rfl ?_
 refine Ch.p2 rfl rfl (OpS.pickT) rfl (Ch.mv rfl rfl (Ch.gm rfl rfl rfl rfl ?_))
 refine Ch.cH (fA) [0,1,2,3,11,12,6,7,8,13] 17 (gdT rfl rfl) (.cons rfl .nil) (.c (.rfl _) .n) rfl (by refine ⟨?_, ?_, ?_, ?_⟩ <;> first | ((conv => lhs; simp only [nrmA, Nat.reduceAdd, renL_tbs, renL_tb1, renL_bks, renL_b1, renL_vs, renL_v1, ren_vt, pend_ren, ren_ss]); all_goals rfl) | rfl) (by exact ⟨rfl, rfl, rfl, rfl, rfl, rfl, rfl, rfl, rfl, rfl, trivial⟩) (by exact trivial) rfl ?_
 refine Ch.p2 rfl rfl (OpS.pickT) rfl (Ch.asg rfl rfl (Ch.nilD ?_ (by kernel_rfl)))
 exact WP.ret (Ret.one rfl (.of_eq rfl) trivial hnA)
end
end Go.Proofs.YtpnbpcopdckgpaaGreatDoor.E
