import Derived.Test.YtpnbpcopdckgpaaGreatDoorZf5d09539
import Derived.Test.YtpnbpcopdckgpaaGreatDoorZ58aa4e3a
import Derived.ChangeArms
import Derived.ChangeOld
import Derived.OpenShut
import Derived.SizedLaws
import Derived.Test.YtpnbpcopdckgpaaGreatDoorZ21840745
import Derived.Test.YtpnbpcopdckgpaaGreatDoorZb39a08da
import Derived.Test.YtpnbpcopdckgpaaGreatDoorZ9169d62d
import Derived.Lib.LaidTab
import Derived.LaidSub
section
namespace Go.Proofs.YtpnbpcopdckgpaaGreatDoor.E
open Go Go.RowKit Go.Proofs.YtpnbpcopdckgpaaGreatDoor.V
set_option maxRecDepth 4000
set_option maxRecDepth 4000
--NRM renL_tbs, renL_tb1, renL_bks, renL_b1, renL_vs, renL_v1, ren_vt, pend_ren, ren_ss
--WKX exact .of_eq (ren_ss _ _).symm | exact .of_eq (ren_nt _ _).symm | exact .of_eq (ren_spt _ _).symm
attribute [local irreducible] sum tag input beS rdNum rdText leavesT f64 tb sigT firstT leadT mayT lkT recT idT learnR voteR dieR
section
variable {G : List (Nat × Array Value)}
end
end Go.Proofs.YtpnbpcopdckgpaaGreatDoor.E
end
section
namespace Go.Proofs.YtpnbpcopdckgpaaGreatDoor.E
open Go Go.RowKit Go.Proofs.YtpnbpcopdckgpaaGreatDoor.V
set_option maxRecDepth 4000
set_option maxRecDepth 4000
set_option maxHeartbeats 4000000
--NRM renL_tbs, renL_tb1, renL_bks, renL_b1, renL_vs, renL_v1, ren_vt, pend_ren, ren_ss
--NUK 9
--WKX exact .of_eq (ren_ss _ _).symm | exact .of_eq (ren_nt _ _).symm | exact .of_eq (ren_spt _ _).symm
theorem learn_sg (x : Rp) (n : Nt) : (learnR x n).sg = x.sg ∧ (learnR x n).n = x.n ∧ (learnR x n).seed = x.seed ∧ (learnR x n).d = x.d ∧ (learnR x n).bs.length = x.bs.length + 1 := ⟨rfl, rfl, rfl, rfl, by rw [learn_bs]; simp⟩
theorem vote_sg (x : Rp) (n : Nt) (e : Dk) (c : Nat) : (voteR x n e c).sg = x.sg ++ [ballotT n.id] ∧ (voteR x n e c).n = x.n + 1 ∧ (voteR x n e c).seed = x.seed ∧ (voteR x n e c).d = e ∧ (voteR x n e c).bs.length = x.bs.length + 1 := ⟨rfl, rfl, rfl, rfl, by show (learnR x n).bs.length = _; rw [learn_bs]; simp⟩
theorem vote_len (x : Rp) (n : Nt) (e : Dk) (c : Nat) : (voteR x n e c).tr.length = x.tr.length + 1 := learn_len x n
attribute [local irreducible] sum tag input beS rdNum rdText leavesT f64 tb sigT firstT leadT mayT lkT recT idT learnR voteR dieR keysP keyT ballotT voteN
section
variable {G : List (Nat × Array Value)}
theorem lpick_fc (c : Int) (n : Nat) (h1 : -9223372036854775808 ≤ c) (h2 : c ≤ 9223372036854775807) (h0 : 0 < n) (hn : (n : Int) ≤ 9223372036854775807) :
  FP G 26 [.v (.int .i64 c), .v (.int .i64 (n : Int))] [] (.v (.int .i64 ((pickW c n : Nat) : Int))) [] := by
 have hpk := pickW_eq c n h0
 refine FC.of_wp [4] Tryz.func26 rfl rfl rfl rfl (by trivial) (by trivial) (Nat.le_of_ble_eq_true rfl) ?_
 intro A hG hnA hAB
 unfold start
 refine WP.rs hG (Ch.asg rfl rfl (Ch.nil (WP.seq (WP.rs hG (Ch.mv rfl rfl (Ch.p2 rfl rfl (OpS.int rfl (by exact rfl)) rfl ?_))))))
 refine Ch.nil ?_
 refine WP.cond rfl ?_ ?_
 ·
  intro ht
  have ht' := of_decide_eq_true ht
  refine WP.rg hG (Ch.mv rfl rfl (Ch.p2 rfl rfl (OpS.int rfl (by exact wr64 (by omega))) rfl ?_))
  refine Ch.p1 rfl (OpS.negI rfl (by omega)) rfl ?_
  refine Ch.asg rfl rfl (Ch.nil (WP.rs hG (Ch.mv rfl rfl (Ch.mv rfl rfl (Ch.p2 rfl rfl (OpS.rem (by omega) (by omega)) rfl ?_)))))
  refine Ch.asg rfl rfl (Ch.nil ?_)
  exact WP.ret (Ret.one rfl (.of_eq (by rw [hpk, if_pos ht']; rfl)) trivial hnA)
 ·
  intro ht
  have ht' := of_decide_eq_false ht
  refine WP.skip (WP.rs hG (Ch.mv rfl rfl (Ch.mv rfl rfl (Ch.p2 rfl rfl (OpS.rem (by omega) (by omega)) rfl ?_))))
  refine Ch.asg rfl rfl (Ch.nil ?_)
  exact WP.ret (Ret.one rfl (.of_eq (by rw [hpk, if_neg ht']; rfl)) trivial hnA)
end
end Go.Proofs.YtpnbpcopdckgpaaGreatDoor.E
end
section
namespace Go.Proofs.YtpnbpcopdckgpaaGreatDoor.E
open Go Go.RowKit Go.ChangeShapes Go.WideShapes Go.Proofs.YtpnbpcopdckgpaaGreatDoor.V
inductive Sh where
 | int (t : TypeId) (k : IntKind)
 | str (t : TypeId)
 | bool (t : TypeId)
 | sl (t : TypeId) (e : Sh)
 | st (t : TypeId) (fs : List Sh)
def Sh.t : Sh → TypeId
 | .int t _ => t
 | .str t => t
 | .bool t => t
 | .sl t _ => t
 | .st t _ => t
mutual
def Sh.size : Sh → Nat
 | .st _ fs => Sh.sizes fs
 | _ => 1
def Sh.sizes : List Sh → Nat
 | [] => 0
 | x :: r => x.size + Sh.sizes r
end
mutual
inductive Ok' (P : Program) : Sh → Prop
 | int {t k} (h : P.underlying t = some (.int k)) : Ok' P (.int t k)
 | str {t} (h : P.underlying t = some .string) : Ok' P (.str t)
 | bool {t} (h : P.underlying t = some .bool) : Ok' P (.bool t)
 | sl {t e} (h : P.underlying t = some (.slice e.t)) (hc : P.cellsOf e.t = e.size) (h0 : 0 < e.size) (he : Ok' P e) : Ok' P (.sl t e)
 | st {t fs fl} (h : P.underlying t = some (.struct fl)) (hf : FOk P 0 fl.toList fs) (hc : P.cellsOf t = Sh.sizes fs) : Ok' P (.st t fs)
inductive FOk (P : Program) : Nat → List Field → List Sh → Prop
 | nil {o} : FOk P o [] []
 | cons {o f s fl ss} (ho : f.offset = o) (ht : f.type = s.t) (hc : P.cellsOf s.t = s.size) (hs : Ok' P s) (hr : FOk P (o + s.size) fl ss) : FOk P o (f :: fl) (s :: ss)
end
mutual
inductive IsSh : Sh → List AV → Prop
 | int {t k n} (h : (Lit.int k n).wf = true) : IsSh (.int t k) [.v (.int k n)]
 | str {t} (l : List UInt8) (h : l.length ≤ reachBytes) : IsSh (.str t) [.v (.string (B l))]
 | bool {t} (b : Bool) : IsSh (.bool t) [.v (.bool b)]
 | sl {t e} (parts : List (List AV)) (h : ∀ p ∈ parts, IsSh e p) (hn : parts.length ≤ maxLen) : IsSh (.sl t e) [.sl none parts.length parts.flatten]
 | st {t fs cs} (h : IsShs fs cs) : IsSh (.st t fs) cs
inductive IsShs : List Sh → List AV → Prop
 | nil : IsShs [] []
 | cons {s ss c cs} (h : IsSh s c) (r : IsShs ss cs) : IsShs (s :: ss) (c ++ cs)
end
theorem flat_get {α : Type} (sz : Nat) (h0 : 0 < sz) : ∀ (ls : List (List α)), (∀ l ∈ ls, l.length = sz) → ls.flatten.length = ls.length * sz ∧ ∀ k : Nat, ls.flatten[k]? = (ls[k / sz]?).bind fun l => l[k % sz]?
 | [], _ => ⟨by simp, fun k => by simp⟩
 | l :: ls, h => by
  have hl := h l (by simp)
  obtain ⟨i1, i2⟩ := flat_get sz h0 ls (fun x hx => h x (by simp [hx]))
  refine ⟨by rw [List.flatten_cons, List.length_append, hl, i1, List.length_cons, Nat.add_mul]; omega, fun k => ?_⟩
  rw [List.flatten_cons]
  rcases Nat.lt_or_ge k sz with hk | hk
  ·
   rw [List.getElem?_append_left (by omega), Nat.div_eq_of_lt hk, Nat.mod_eq_of_lt hk]
   rfl
  ·
   rw [List.getElem?_append_right (by omega), hl, i2]
   have e1 : k / sz = (k - sz) / sz + 1 := by
    rw [show k = (k - sz) + sz by omega, Nat.add_div_right _ h0, Nat.add_sub_cancel]
   have e2 : k % sz = (k - sz) % sz := by
    conv => lhs; rw [show k = (k - sz) + sz by omega, Nat.add_mod_right]
   rw [e1, e2, List.getElem?_cons_succ]
section
variable {H : Type} {enc : TypeId × Value → H} {P : Program} {w : World} {spare : Nat → Bool} {held : Bool}
theorem cells_get {a : Addr} {n : Nat} {cs : List Value} (h : w.cells? 0 a n = some cs) : cs.length = n ∧ ∀ i, i < n → w.cell? (a.add i) = cs[i]? := by
 obtain ⟨_, h1, h2⟩ := World.cells?_some h
 exact ⟨h1, h2⟩
theorem spotless {b off : Nat} {sp : Option _} {v : Value} (h : w.cell? ((⟨b, off, sp⟩ : Addr).add 0) = some v) : sp = none ∧ b < w.heap.size := by
 cases sp with
 | none =>
  refine ⟨rfl, ?_⟩
  have : ((⟨b, off, none⟩ : Addr).add 0) = ⟨b, off, none⟩ := rfl
  rw [this] at h
  unfold World.cell? at h
  split at h
  ·
   rename_i he
   exact (Array.getElem?_eq_some_iff.1 he).1
  · simp at h
 | some x =>
  rw [show ((⟨b, off, some x⟩ : Addr).add 0) = ⟨b, off, some x⟩ from rfl] at h
  unfold World.cell? at h
  split at h <;> simp at h
theorem add_add (b off i : Nat) : ((⟨b, off, none⟩ : Addr).add i) = ⟨b, off + i, none⟩ := by unfold Addr.add; split <;> simp_all
theorem weightsAll_mem {P : Program} {e : TypeId} {d : DataW H} {n : Nat} : ∀ {ds : List (DataW H)}, d ∈ ds → n ∈ d.weights P e → n ∈ DataW.weightsAll P e ds
 | d' :: ds, h, hn => by
  unfold DataW.weightsAll
  rcases List.mem_cons.1 h with rfl | h
  · exact List.mem_append.2 (.inl hn)
  · exact List.mem_append.2 (.inr (weightsAll_mem h hn))
theorem read_sh : ∀ (fuel : Nat) (sh : Sh) (cs : List Value) (x : DataW H × List MemPlace), Ok' P sh → DataW.trod enc P w 0 spare held fuel sh.t cs = some x → (∀ n ∈ x.1.weights P sh.t, n ≤ reachBytes) →
  ∃ av, IsSh sh av ∧ av.length = sh.size ∧ cs.length = sh.size ∧ ∀ (i : Nat) (c : AV) (v : Value), av[i]? = some c → cs[i]? = some v → VRel (allN w) noE w c v ∧ v.oneCell' = true := by
 intro fuel
 induction fuel with
 | zero => intro sh cs x _ h _; simp [DataW.trod] at h
 | succ n ih =>
  have one : ∀ (c : AV) (v : Value), VRel (allN w) noE w c v → v.oneCell' = true → ∀ (i : Nat) (c' : AV) (v' : Value), [c][i]? = some c' → [v][i]? = some v' → VRel (allN w) noE w c' v' ∧ v'.oneCell' = true := by
   intro c v h1 h2 i c' v' hc hv
   match i with
   | 0 => cases hc; cases hv; exact ⟨h1, h2⟩
   | i + 1 => simp at hc
  intro sh cs x hok h hwt
  cases hok with
  | int hu =>
   obtain ⟨z, rfl, rfl, hw⟩ := DataW.trod_int hu h
   exact ⟨_, .int hw, rfl, rfl, one _ _ (.v _) rfl⟩
  | str hu =>
   obtain ⟨s, rfl, rfl, hw⟩ := DataW.trod_string hu h
   obtain ⟨l, rfl⟩ := exists_B s
   exact ⟨_, .str l (by have := hwt _ (List.mem_singleton.2 rfl); rw [B_data] at this; exact this), rfl, rfl, one _ _ (.v _) rfl⟩
  | bool hu =>
   obtain ⟨b, rfl, rfl⟩ := DataW.trod_bool hu h
   exact ⟨_, .bool b, rfl, rfl, one _ _ (.v _) rfl⟩
  | @sl t e hu hc h0 he =>
   rcases DataW.trod_slice hu h with ⟨rfl, rfl⟩ | ⟨a, len, cap, elems, rest, m, hfu, rfl, rfl, _, hl, hm, hlen, hel, _, _⟩
   · exact ⟨_, .sl [] (fun p hp => by cases hp) (Nat.zero_le _), rfl, rfl, one _ _ (.sl none 0 [] none 0 (fun _ => undef) (fun i hi => by cases hi) (fun i c hc => by simp at hc) (fun k hk => by cases hk) (Nat.le_refl _) (fun _ => rfl) (Nat.zero_le _)) rfl⟩
   ·
    obtain rfl : n = m := by omega
    have hwe : ∀ (i : Nat) (y : DataW H × List MemPlace), elems[i]? = some y → ∀ n ∈ y.1.weights P e.t, n ≤ reachBytes := fun i y hy n hn => hwt n (by
     rw [DataW.weights, show P.underlying (Sh.sl t e).t = some (.slice e.t) from hu]
     exact List.mem_cons_of_mem _ (List.mem_append.2 (.inl (weightsAll_mem (List.mem_map.2 ⟨y, List.mem_of_getElem? hy, rfl⟩) hn))))
    have hex : ∀ i, ∃ p : List AV, i < len → IsSh e p ∧ p.length = e.size ∧ ∃ vs, w.cells? 0 (a.add (i * e.size)) e.size = some vs ∧ ∀ (j : Nat) (c : AV) (v : Value), p[j]? = some c → vs[j]? = some v → VRel (allN w) noE w c v ∧ v.oneCell' = true := by
     intro i
     by_cases hi : i < len
     ·
      have hb := hel i hi
      rw [hc, List.getElem?_eq_getElem (by omega), Option.bind_eq_some_iff] at hb
      obtain ⟨vs, hvs, hy⟩ := hb
      obtain ⟨av, k1, k2, k3, k4⟩ := ih e vs _ he hy (hwe i _ (List.getElem?_eq_getElem (by omega)))
      exact ⟨av, fun _ => ⟨k1, k2, vs, hvs, k4⟩⟩
     · exact ⟨[], fun hi' => absurd hi' hi⟩
    obtain ⟨f, hf⟩ : ∃ f : Nat → List AV, ∀ i, i < len → IsSh e (f i) ∧ (f i).length = e.size ∧ ∃ vs, w.cells? 0 (a.add (i * e.size)) e.size = some vs ∧ ∀ (j : Nat) (c : AV) (v : Value), (f i)[j]? = some c → vs[j]? = some v → VRel (allN w) noE w c v ∧ v.oneCell' = true :=
     ⟨fun i => Classical.choose (hex i), fun i => Classical.choose_spec (hex i)⟩
    have hpl : ((List.range len).map f).length = len := by simp
    have hpm : ∀ p ∈ (List.range len).map f, IsSh e p ∧ p.length = e.size := fun p hp => by
     obtain ⟨i, hi, rfl⟩ := List.mem_map.1 hp
     have := hf i (List.mem_range.1 hi)
     exact ⟨this.1, this.2.1⟩
    obtain ⟨g1, g2⟩ := flat_get e.size h0 ((List.range len).map f) (fun p hp => (hpm p hp).2)
    rw [hpl] at g1
    have his : IsSh (.sl t e) [.sl none len ((List.range len).map f).flatten] := by
     have := IsSh.sl (t := t) ((List.range len).map f) (fun p hp => (hpm p hp).1) (by rw [hpl]; omega)
     rw [hpl] at this
     exact this
    refine ⟨_, his, rfl, rfl, one _ _ ?_ rfl⟩
    obtain ⟨b, off, sp⟩ := a
    have hcell : ∀ k, k < len * e.size → sp = none ∧ b < w.heap.size ∧ ∃ c v, ((List.range len).map f).flatten[k]? = some c ∧ w.cell? ⟨b, off + k, none⟩ = some v ∧ VRel (allN w) noE w c v ∧ v.oneCell' = true := by
     intro k hk
     have hlp : 0 < len := by
      rcases Nat.eq_zero_or_pos len with h | h
      · subst h; omega
      · exact h
     have hi : k / e.size < len := (Nat.div_lt_iff_lt_mul h0).2 hk
     have hj : k % e.size < e.size := Nat.mod_lt _ h0
     obtain ⟨-, -, vs0, hv0, -⟩ := hf 0 hlp
     rw [Nat.zero_mul] at hv0
     obtain ⟨l0, c0⟩ := cells_get hv0
     have z0 := c0 0 h0
     rw [List.getElem?_eq_getElem (by omega), show ((⟨b, off, sp⟩ : Addr).add 0).add 0 = (⟨b, off, sp⟩ : Addr).add 0 by cases sp <;> rfl] at z0
     obtain ⟨rfl, hblk⟩ := spotless z0
     obtain ⟨hs1, hs2, vs, hvs, hrel⟩ := hf _ hi
     obtain ⟨l1, c1⟩ := cells_get hvs
     have z1 := c1 _ hj
     rw [add_add, add_add, List.getElem?_eq_getElem (by omega), show off + k / e.size * e.size + k % e.size = off + k by have := Nat.div_add_mod k e.size; rw [Nat.mul_comm] at this; omega] at z1
     have hfl := g2 k
     rw [List.getElem?_map, List.getElem?_range hi] at hfl
     simp only [Option.map_some, Option.bind_some] at hfl
     rw [List.getElem?_eq_getElem (show k % e.size < (f (k / e.size)).length by omega)] at hfl
     refine ⟨rfl, hblk, _, _, hfl, z1, ?_⟩
     exact hrel (k % e.size) _ _ (List.getElem?_eq_getElem _) (List.getElem?_eq_getElem _)
    refine .sl none len _ _ cap (fun k => (w.cell? ⟨b, off + k, none⟩).getD undef) (fun k hk => ?_) (fun k c hk => ?_) (fun k hk => by cases hk) hl (fun h => by cases h) hm
    ·
     rw [g1] at hk
     obtain ⟨rfl, hb, c, v, h1, h2, h3, h4⟩ := hcell k hk
     refine ⟨by rw [h2]; exact h4, b, off, rfl, by rw [h2]; rfl, hb⟩
    ·
     have hk' := (List.getElem?_eq_some_iff.1 hk).1
     rw [g1] at hk'
     obtain ⟨-, hb, c', v, h1, h2, h3, h4⟩ := hcell k hk'
     rw [h1] at hk
     cases hk
     rw [h2]
     exact h3
  | @st t fs fl hu hf hc =>
   obtain ⟨xs, m, hfu, rfl, hcl, hxl, hx⟩ := DataW.trod_struct hu h
   obtain rfl : n = m := by omega
   have key : ∀ (fl' : List Field) (ss : List Sh) (o : Nat), FOk P o fl' ss → (∀ f ∈ fl', ∃ y, DataW.trod enc P w 0 spare held n f.type ((cs.drop f.offset).take (P.cellsOf f.type)) = some y ∧ ∀ n ∈ y.1.weights P f.type, n ≤ reachBytes) →
     ∃ av, IsShs ss av ∧ av.length = Sh.sizes ss ∧ ∀ (i : Nat) (c : AV) (v : Value), av[i]? = some c → cs[o + i]? = some v → VRel (allN w) noE w c v ∧ v.oneCell' = true := by
    intro fl'
    induction fl' with
    | nil => intro ss o ho _; cases ho; exact ⟨[], .nil, rfl, fun i c v hc => by simp at hc⟩
    | cons f fl' ih2 =>
     intro ss o ho hy
     cases ho with
     | @cons _ _ s _ ss ho ht hcs hs hr =>
      subst ho
      obtain ⟨y, hy1, hy2⟩ := hy f (by simp)
      rw [ht] at hy2
      rw [ht, hcs] at hy1
      obtain ⟨a1, k1, k2, k3, k4⟩ := ih s _ _ hs hy1 hy2
      obtain ⟨a2, j1, j2, j3⟩ := ih2 ss _ hr (fun g hg => hy g (by simp [hg]))
      refine ⟨a1 ++ a2, .cons k1 j1, by rw [List.length_append, k2, j2]; rfl, fun i c v hc hv => ?_⟩
      rcases Nat.lt_or_ge i s.size with hi | hi
      ·
       rw [List.getElem?_append_left (by omega)] at hc
       refine k4 i c v hc ?_
       rw [List.getElem?_take_of_lt hi, List.getElem?_drop]
       exact hv
      ·
       rw [List.getElem?_append_right (by omega), k2] at hc
       refine j3 (i - s.size) c v hc ?_
       rw [show f.offset + s.size + (i - s.size) = f.offset + i by omega]
       exact hv
   obtain ⟨av, k1, k2, k3⟩ := key fl.toList fs 0 hf (fun f hf' => by
    obtain ⟨i, hi⟩ := List.mem_iff_getElem?.1 hf'
    have hi' : fl[i]? = some f := by simpa using hi
    have hlt : i < xs.length := by rw [hxl]; exact (Array.getElem?_eq_some_iff.1 hi').1
    exact ⟨_, (hx i f hi').trans (List.getElem?_eq_getElem hlt), fun n hn => hwt n (by
     rw [DataW.weights, show P.underlying (Sh.st t fs).t = some (.struct fl) from hu]
     exact DataW.weights_mem_each (j := i) (t := f.type) (d := (xs[i]).1) (by rw [List.getElem?_map, hi]; rfl) (by rw [List.getElem?_map, List.getElem?_eq_getElem hlt]; rfl) n hn)⟩)
   exact ⟨av, .st k1, k2, hcl.trans hc, fun i c v hc hv => k3 i c v hc (by rw [Nat.zero_add]; exact hv)⟩
end
theorem list_of {α : Type} (f : α → List AV) (Q : α → Prop) : ∀ (parts : List (List AV)), (∀ p ∈ parts, ∃ x, Q x ∧ p = f x) → ∃ xs : List α, (∀ x ∈ xs, Q x) ∧ parts = xs.map f
 | [], _ => ⟨[], (fun x hx => by cases hx), rfl⟩
 | p :: parts, h => by
  obtain ⟨x, hx, rfl⟩ := h p (by simp)
  obtain ⟨xs, hxs, rfl⟩ := list_of f Q parts (fun q hq => h q (by simp [hq]))
  exact ⟨x :: xs, fun y hy => (List.mem_cons.1 hy).elim (fun e => e ▸ hx) (hxs y), rfl⟩
theorem flat_one {α : Type} (g : α → AV) : ∀ xs : List α, (xs.map fun x => [g x]).flatten = xs.map g
 | [] => rfl
 | x :: xs => by rw [List.map_cons, List.flatten_cons, flat_one g xs]; rfl
theorem weigh {H : Type} {P : Program} {ts : List TypeId} {ds : List (DataW H)} (h : (DataW.weightsEach P ts ds).all (· ≤ reachBytes) = true) {j : Nat} {t : TypeId} {d : DataW H} (ht : ts[j]? = some t) (hd : ds[j]? = some d) : ∀ n ∈ d.weights P t, n ≤ reachBytes := fun n hn => by
 have := List.all_eq_true.1 h _ (DataW.weights_mem_each ht hd n hn)
 simpa using this
theorem read_one {H : Type} {enc : TypeId × Value → H} {P : Program} {w : World} {spare : Nat → Bool} {held : Bool} {sh : Sh} (hok : Ok' P sh) (h1 : sh.size = 1) {v : Value} (hv : v.cells.toList = [v]) {d : DataW H} {ps : List MemPlace}
  (hwt : ∀ n ∈ d.weights P sh.t, n ≤ reachBytes) (h : DataW.Trod enc P w 0 spare held sh.t v d ps) : ∃ c, IsSh sh [c] ∧ VRel (allN w) noE w c v := by
 obtain ⟨fuel, hf⟩ := h
 rw [hv] at hf
 obtain ⟨av, k1, k2, k3, k4⟩ := read_sh fuel sh _ _ hok hf hwt
 rw [h1] at k2
 obtain ⟨c, rfl⟩ := List.length_eq_one_iff.1 k2
 exact ⟨c, k1, (k4 0 c v rfl rfl).1⟩
theorem IsSh.strs {t t' : TypeId} {c : AV} (h : IsSh (.sl t (.str t')) [c]) : ∃ ss : List (List UInt8), c = .sl none ss.length (ss.map sA) ∧ (∀ s ∈ ss, s.length ≤ reachBytes) ∧ ss.length ≤ maxLen := by
 generalize hl : [c] = cs at h
 cases h with
 | sl parts hp hn =>
  cases hl
  obtain ⟨xs, hq, rfl⟩ := list_of (fun l : List UInt8 => [sA l]) (fun l => l.length ≤ reachBytes) parts (fun p hm => by
   cases hp p hm with
   | str l h => exact ⟨l, h, rfl⟩)
  refine ⟨xs, ?_, hq, by simpa using hn⟩
  rw [List.length_map, flat_one]
theorem IsSh.ints {t t' : TypeId} {c : AV} (h : IsSh (.sl t (.int t' .i64)) [c]) : ∃ ns : List Int, c = .sl none ns.length (ns.map iA) ∧ (∀ n ∈ ns, -9223372036854775808 ≤ n ∧ n ≤ 9223372036854775807) ∧ ns.length ≤ maxLen := by
 generalize hl : [c] = cs at h
 cases h with
 | sl parts hp hn =>
  cases hl
  obtain ⟨xs, hq, rfl⟩ := list_of (fun n : Int => [iA n]) (fun n => -9223372036854775808 ≤ n ∧ n ≤ 9223372036854775807) parts (fun p hm => by
   cases hp p hm with
   | int h => exact ⟨_, by simpa [Lit.wf, IntKind.min, IntKind.max, IntKind.signed, IntKind.bits] using h, rfl⟩)
  refine ⟨xs, ?_, hq, by simpa using hn⟩
  rw [List.length_map, flat_one]
theorem IsSh.one {sh : Sh} {cs : List AV} (h : IsSh sh cs) (h1 : ∀ t fs, sh ≠ .st t fs) : ∃ c, cs = [c] := by
 cases h with
 | st => exact absurd rfl (h1 _ _)
 | _ => exact ⟨_, rfl⟩
theorem IsSh.intsL {t t' : TypeId} {cs : List AV} (h : IsSh (.sl t (.int t' .i64)) cs) : ∃ ns : List Int, cs = [.sl none ns.length (ns.map iA)] ∧ (∀ n ∈ ns, -9223372036854775808 ≤ n ∧ n ≤ 9223372036854775807) ∧ ns.length ≤ maxLen := by
 obtain ⟨c, rfl⟩ := h.one (fun _ _ h => by cases h)
 obtain ⟨ns, rfl, h2⟩ := h.ints
 exact ⟨ns, rfl, h2⟩
theorem IsSh.strsL {t t' : TypeId} {cs : List AV} (h : IsSh (.sl t (.str t')) cs) : ∃ ss : List (List UInt8), cs = [.sl none ss.length (ss.map sA)] ∧ (∀ s ∈ ss, s.length ≤ reachBytes) ∧ ss.length ≤ maxLen := by
 obtain ⟨c, rfl⟩ := h.one (fun _ _ h => by cases h)
 obtain ⟨ns, rfl, h2⟩ := h.strs
 exact ⟨ns, rfl, h2⟩
end Go.Proofs.YtpnbpcopdckgpaaGreatDoor.E
end
section
namespace Go.Proofs.YtpnbpcopdckgpaaGreatDoor.E
open Go Go.RowKit Go.ChangeShapes Go.WideShapes Go.Proofs.YtpnbpcopdckgpaaGreatDoor.V
set_option maxRecDepth 4000
structure ActR where
 what : Int
 who : Int
 which : Int
 text : Txt
 n : Nt
 how : List Int
instance : Inhabited ActR := ⟨⟨0, 0, 0, [], nt0, []⟩⟩
abbrev acR (a : ActR) : List AV := [.v (.int .i64 a.what), .v (.int .i64 a.who), .v (.int .i64 a.which), sA a.text, .v (.int .i64 a.n.kind), .v (.int .i64 a.n.fr), .v (.int .i64 a.n.rcp), .v (.int .u64 (U64 a.n.view)), sA a.n.id, sA a.n.pa, sA a.n.pl, sA a.n.sig, ssA a.n.sigs, .sl none a.how.length (a.how.map iA)]
structure ActROk (a : ActR) : Prop where
 what : -9223372036854775808 ≤ a.what ∧ a.what ≤ 9223372036854775807
 who : -9223372036854775808 ≤ a.who ∧ a.who ≤ 9223372036854775807
 which : -9223372036854775808 ≤ a.which ∧ a.which ≤ 9223372036854775807
 text : a.text.length ≤ 9223372036854775807
 how : a.how.length ≤ 9223372036854775807
theorem acR_bel (u : Nat → Bool) (a : ActR) : AV.belL u (acR a) := ⟨trivial, trivial, trivial, trivial, trivial, trivial, trivial, trivial, trivial, trivial, trivial, trivial, bel_ss _ _, ⟨(fun k hk => by cases hk), belL_i _ _⟩, trivial⟩
theorem acR_ren (π : Nat → Nat) (a : ActR) : AV.renL π (acR a) = acR a := by
 show [_, _, _, _, _, _, _, _, _, _, _, _, AV.ren π (ssA a.n.sigs), AV.sl none _ (AV.renL π _)] = _
 rw [ren_ss, renL_i]
 rfl
theorem acR_one (a : ActR) : ((acR a).all fun c => c.one) = true := by
 show (true && (true && (true && (true && (true && (true && (true && (true && (true && (true && (true && (true && ((ssA a.n.sigs).one && (true && true)))))))))))))) = true
 rw [one_ss]
 rfl
def actsR (xs : List ActR) : List AV := xs.flatMap acR
theorem acR_len (a : ActR) : (acR a).length = 14 := rfl
@[simp] theorem actsR_ren (π : Nat → Nat) : ∀ xs : List ActR, AV.renL π (actsR xs) = actsR xs
 | [] => rfl
 | a :: l => by
  have h := actsR_ren π l
  unfold actsR at h ⊢
  rw [List.flatMap_cons, renL_append, h, acR_ren]
@[simp] theorem actsR_bel (u : Nat → Bool) : ∀ xs : List ActR, AV.belL u (actsR xs)
 | [] => trivial
 | a :: l => by
  unfold actsR
  rw [List.flatMap_cons]
  exact belL_app u _ _ (acR_bel u a) (actsR_bel u l)
theorem actsR_len (xs : List ActR) : (actsR xs).length = xs.length * 14 := flatA_len acR 14 acR_len xs
theorem u64_of {n : Int} (h : (Lit.int .u64 n).wf = true) : ∃ v : UInt64, n = U64 v := by
 have z : 0 ≤ n ∧ n ≤ 18446744073709551615 := by simpa [Lit.wf, IntKind.min, IntKind.max, IntKind.signed, IntKind.bits] using h
 exact ⟨UInt64.ofNat n.toNat, by rw [u64_ofNat]; omega⟩
theorem i64_of {n : Int} (h : (Lit.int .i64 n).wf = true) : -9223372036854775808 ≤ n ∧ n ≤ 9223372036854775807 := by
 simpa [Lit.wf, IntKind.min, IntKind.max, IntKind.signed, IntKind.bits] using h
theorem isNote {ta t1 t2 t3 t4 t5 t6 t7 t8 t9 t10 : TypeId} {cs : List AV} (h : IsSh (.st ta [.int t1 .i64, .int t2 .i64, .int t3 .i64, .int t4 .u64, .str t5, .str t6, .str t7, .str t8, .sl t9 (.str t10)]) cs) : ∃ n : Nt, cs = ntA n := by
 cases h with
 | st h =>
  cases h with
  | cons h1 r => cases r with
  | cons h2 r => cases r with
  | cons h3 r => cases r with
  | cons h4 r => cases r with
  | cons h5 r => cases r with
  | cons h6 r => cases r with
  | cons h7 r => cases r with
  | cons h8 r => cases r with
  | cons h9 r =>
   cases r
   obtain ⟨ss, rfl, -, -⟩ := h9.strsL
   cases h1; cases h2; cases h3
   cases h4 with
   | int w4 =>
    obtain ⟨v, rfl⟩ := u64_of w4
    cases h5; cases h6; cases h7; cases h8
    exact ⟨⟨_, _, _, v, _, _, _, _, some ss⟩, rfl⟩
theorem isActsR {t ta t1 t2 t3 t4 tn s1 s2 s3 s4 s5 s6 s7 s8 s9 s10 t5 t6 : TypeId} {c : AV}
  (h : IsSh (.sl t (.st ta [.int t1 .i64, .int t2 .i64, .int t3 .i64, .str t4, .st tn [.int s1 .i64, .int s2 .i64, .int s3 .i64, .int s4 .u64, .str s5, .str s6, .str s7, .str s8, .sl s9 (.str s10)], .sl t5 (.int t6 .i64)])) [c]) :
  ∃ xs : List ActR, c = .sl none xs.length (actsR xs) ∧ (∀ a ∈ xs, ActROk a) ∧ xs.length ≤ maxLen := by
 generalize hl : [c] = cs at h
 cases h with
 | sl parts hp hn =>
  cases hl
  obtain ⟨xs, hq, rfl⟩ := list_of acR ActROk parts (fun p hm => by
   cases hp p hm with
   | st h =>
    cases h with
    | cons h1 r => cases r with
    | cons h2 r => cases r with
    | cons h3 r => cases r with
    | cons h4 r => cases r with
    | cons h5 r => cases r with
    | cons h6 r =>
     cases r
     obtain ⟨n, rfl⟩ := isNote h5
     obtain ⟨ns, rfl, -, hnn⟩ := h6.intsL
     cases h1 with
     | int w1 => cases h2 with
     | int w2 => cases h3 with
     | int w3 => cases h4 with
     | str l hl =>
      refine ⟨⟨_, _, _, l, n, ns⟩, ⟨i64_of w1, i64_of w2, i64_of w3, ?_, ?_⟩, rfl⟩
      ·
       show l.length ≤ _
       unfold reachBytes at hl
       omega
      ·
       show ns.length ≤ _
       unfold maxLen at hnn
       omega)
  exact ⟨xs, by rw [List.length_map]; unfold actsR; rw [List.flatMap_def], hq, by simpa using hn⟩
end Go.Proofs.YtpnbpcopdckgpaaGreatDoor.E
end
section
namespace Go.Proofs.YtpnbpcopdckgpaaGreatDoor.E
open Go Go.RowKit Go.Proofs.YtpnbpcopdckgpaaGreatDoor.V
set_option maxRecDepth 4000
set_option maxRecDepth 4000
set_option maxHeartbeats 4000000
--NRM renL_tbs, renL_tb1, renL_bks, renL_b1, renL_vs, renL_v1, ren_vt, pend_ren, ren_ss
--NUK 9
--WKX exact .of_eq (ren_ss _ _).symm | exact .of_eq (ren_nt _ _).symm | exact .of_eq (ren_spt _ _).symm
abbrev uvA (u : UInt64) : AV := .v (.int .u64 (U64 u))
@[simp] theorem renL_u (π : Nat → Nat) (l : List UInt64) : AV.renL π (l.map uvA) = l.map uvA := renL_raw π _ l
@[simp] theorem belL_u (u : Nat → Bool) : ∀ l : List UInt64, AV.belL u (l.map uvA)
 | [] => trivial
 | a :: l => ⟨trivial, belL_u u l⟩
theorem min3 (n : Nat) : (if (3 : Int) < (n : Int) then (3 : Int) else (n : Int)) = ((min n 3 : Nat) : Int) := by split <;> omega
def Up (vs : List UInt64) (v : UInt64) : Prop := 0 < vs.length → (el vs (vs.length - 1)).toNat ≤ v.toNat
theorem up_nil (v : UInt64) : Up [] v := fun h => absurd h (Nat.lt_irrefl _)
theorem el_last (vs : List UInt64) (v : UInt64) : el (vs ++ [v]) ((vs ++ [v]).length - 1) = v := by
 unfold el
 simp
theorem up_app (vs : List UInt64) (v : UInt64) : Up (vs ++ [v]) v := fun _ => by rw [el_last]; exact Nat.le_refl _
theorem Up.mono {vs : List UInt64} {v w : UInt64} (h : Up vs v) (hw : v.toNat ≤ w.toNat) : Up vs w := fun h0 => Nat.le_trans (h h0) hw
def Tells (s : Txt) (m : Nat) (vs : List UInt64) : Prop := ∃ (v : UInt64) (n : Nat), loadT s = (v, UInt64.ofNat n, firstT) ∧ n ≤ m ∧ Up vs v
structure Bd (x : Rp) (m : Nat) : Prop where
 n : x.n ≤ m
 tr : x.tr.length ≤ m + 1
 sg : x.sg.length ≤ m
 sd : x.seed.length ≤ 1000
def Aft (x : Rp) (c m : Nat) (vs : List UInt64) : Prop := (RI x c ∧ Bd x m ∧ Up vs x.vo) ∨ (x.dead = true ∧ ∃ s t, Pn x.d c s t ∧ Tells s m vs ∧ Tells t m vs)
theorem ri_tells {x : Rp} {c m : Nat} {vs : List UInt64} (h : RI x c) (hb : x.n ≤ m) (hu : Up vs x.vo) : Tells x.s m vs := ⟨x.vo, x.n, h.ld, hb, hu⟩
theorem aft_crash {x : Rp} {c m : Nat} {vs : List UInt64} (h : Aft x c m vs) (how : List Int) : ∃ (c' : Nat) (s : Txt), c' ≤ c + 1 ∧ Good (crashD x.d how) c' s ∧ Tells s m vs := by
 rcases h with ⟨h, hb, hu⟩ | ⟨-, s, t, hp, hs, ht⟩
 · exact ⟨c, x.s, by omega, h.good.crash how, ri_tells h hb.n hu⟩
 ·
  rcases hp.crash how with h | h
  · exact ⟨c, s, by omega, h, hs⟩
  · exact ⟨c + 1, t, by omega, h, ht⟩
theorem aft_wf {x : Rp} {c m : Nat} {vs : List UInt64} (h : Aft x c m vs) : Wf x.d := by
 rcases h with ⟨h, -⟩ | ⟨-, s, t, hp, -⟩
 · exact h.good.wf
 · exact hp.wf
theorem aft_learn {x : Rp} {c m : Nat} {vs : List UInt64} {n : Nt} (h : RI x c) (hb : Bd x m) (hu : Up vs x.vo) (hm : m ≤ 100) (hv : n.view.toNat ≤ x.vo.toNat) : Aft (learnR x n) c (m + 1) vs := by
 have hbn := hb.n; have hbt := hb.tr; have hbs := hb.sg; have hbd := hb.sd
 have e := learn_sg x n
 refine .inl ⟨h.learn (by omega) hv, ⟨by rw [e.2.1]; omega, by rw [learn_len]; omega, by rw [e.1]; omega, by rw [e.2.2.1]; omega⟩, ?_⟩
 exact hu
theorem aft_vote {x : Rp} {c m : Nat} {vs : List UInt64} {n : Nt} {e : Dk} (h : RI x c) (hb : Bd x m) (hm : m ≤ 30) (hn : PN n) (hv : x.vo.toNat < n.view.toNat) (ge : Good e (c + 1) (recT n.view (x.n + 1) firstT)) : Aft (voteR x n e (c + 1)) (c + 1) (m + 1) (vs ++ [n.view]) := by
 have hbn := hb.n; have hbt := hb.tr; have hbs := hb.sg; have hbd := hb.sd
 have k := vote_sg x n e (c + 1)
 refine .inl ⟨h.vote (by omega) (by omega) hn.le hv ge, ⟨by rw [k.2.1]; omega, by rw [vote_len]; omega, by rw [k.1, List.length_append]; simp; omega, by rw [k.2.2.1]; omega⟩, ?_⟩
 exact up_app vs n.view
theorem aft_die {x : Rp} {c m : Nat} {vs : List UInt64} {n : Nt} {e : Dk} (h : RI x c) (hb : Bd x m) (hm : m ≤ 30) (hu : Up vs x.vo) (hn : PN n) (hv : x.vo.toNat < n.view.toNat) (hp : Pn e c x.s (recT n.view (x.n + 1) firstT)) : Aft (dieR x n e) c (m + 1) vs := by
 have hbn := hb.n
 refine .inr ⟨rfl, x.s, _, hp, ⟨x.vo, x.n, h.ld, by omega, hu⟩, ⟨n.view, x.n + 1, load_rec n.view (x.n + 1) firstT (by rw [firstT_32]; decide) (by omega), by omega, hu.mono (by omega)⟩⟩
theorem aft_same {x : Rp} {c m : Nat} {vs : List UInt64} (h : RI x c) (hb : Bd x m) (hu : Up vs x.vo) : Aft x c (m + 1) vs :=
 .inl ⟨h, ⟨by have := hb.n; omega, by have := hb.tr; omega, by have := hb.sg; omega, hb.sd⟩, hu⟩
theorem new_bd (d : Dk) (s : Txt) (c : Nat) (v : UInt64) (n m : Nat) (hn : n ≤ m) : Bd (rp0 d s c v 0 (keysP 4) [114, 97] n) m := ⟨hn, by show 1 ≤ m + 1; omega, Nat.zero_le _, (show ([114, 97] : Txt).length ≤ 1000 by decide)⟩
theorem RI.arm {x : Rp} {c : Nat} (h : RI x c) (n : Int) (hn : n ≤ 9223372036854775807) : RI { x with d := { x.d with left := armL n } } c := ⟨h.good.arm n hn, h.hc, h.lost, h.ld, h.wf, h.bl, h.b0, h.up, h.lk, h.lid, h.view, h.dead⟩
theorem tprop_pn (p : Nat) (hp : p < 12) (a : ActR) : PN ⟨1, (leadT (UInt64.ofNat (p + 1)) : Int), -1, UInt64.ofNat (p + 1), idT (UInt64.ofNat (p + 1)) firstT (a.text.take (min a.text.length 3)), firstT, (a.text.take (min a.text.length 3)), [], none⟩ := by
 have h : (UInt64.ofNat (p + 1)).toNat = p + 1 := by rw [UInt64.toNat_ofNat']; omega
 exact ⟨rfl, rfl, (by show (List.take _ a.text).length ≤ 200; rw [List.length_take]; omega), rfl, rfl, by show 0 < (UInt64.ofNat (p + 1)).toNat; omega, by show (UInt64.ofNat (p + 1)).toNat ≤ _; omega⟩
theorem actsR_at (xs : List ActR) (m : Nat) (h : m < xs.length) : ((actsR xs).drop (m * 14)).take 14 = acR (el xs m) := by
 unfold actsR
 rw [List.flatMap_def]
 have hp : ∀ (l : List (List AV)), (∀ y ∈ l, y.length = 14) → ∀ k, k < l.length → (l.flatten.drop (k * 14)).take 14 = el l k := by
  intro l
  induction l with
  | nil => intro _ k hk; exact absurd hk (Nat.not_lt_zero _)
  | cons y l ih =>
   intro hl k hk
   cases k with
   | zero =>
    rw [List.flatten_cons, Nat.zero_mul, List.drop_zero, List.take_left' (hl y (by simp))]
    rfl
   | succ k =>
    have hy := hl y (by simp)
    rw [List.flatten_cons, show (k + 1) * 14 = y.length + k * 14 by omega, List.drop_append, List.drop_of_length_le (by omega), List.nil_append, Nat.add_sub_cancel_left, ih (fun z hz => hl z (by simp [hz])) k (by simpa using hk)]
    rfl
 have := hp (xs.map acR) (by intro y hy; obtain ⟨a, -, rfl⟩ := List.mem_map.1 hy; exact acR_len a) m (by simpa using h)
 rw [this]
 unfold el
 rw [List.getElem?_map, List.getElem?_eq_getElem h]
 rfl
theorem OpS.indexAddrE {P : Program} {G : List (Nat × Array Value)} {dst : Option Tmp} {ty : TypeId} {pos : String} {aft : Array Edge} {gd : Option (Nat × Bool)} {tx e : TypeId} {inf : TypeInfo} {x i : Operand} {o : Option Nat} {n sz : Nat} {cs cs' : List AV} {k : IntKind} {m : Int} (hu : P.underlying tx = some (.slice e)) (hi : P.info? e = some inf) (hz : inf.size = sz) (h0 : 0 ≤ m) (h1 : m < (n : Int))
  (hl : cs.length = n * sz) (hsz : 0 < sz) (he : (cs.drop (m.toNat * sz)).take sz = cs') :
  OpS P G ⟨dst, .indexAddr tx x i, ty, pos, aft, gd⟩ [(x, .sl o n cs), (i, .v (.int k m))] [] ⟨some (.sptr cs'), [], []⟩ := by
 subst he
 exact OpS.indexAddr hu hi hz h0 h1 hl hsz
attribute [local irreducible] sum tag input beS rdNum rdText leavesT f64 tb sigT firstT leadT mayT lkT recT idT learnR voteR dieR keysP keyT ballotT voteN actsR crashD loadT
section
variable {G : List (Nat × Array Value)}
theorem newA_fc (hm : ShaIn G) (d : Dk) (c : Nat) (s : Txt) (hg : Good d c s) (v : UInt64) (n : Nat) (hn : n ≤ 32) (hld : loadT s = (v, UInt64.ofNat n, firstT)) : FP G 23 [.v (.int .i64 0), .sl none (3 + 1) ((keysP 4).flatMap vA), sA [114, 97], .ptr 0 0] (dkH d) (.ptr 2 0) (rpH (rp0 d s c v 0 (keysP 4) [114, 97] n)) :=
 rNew_fc hm 0 (by decide) (keysP 4) (keysP_len 4) keys40 keys_nd [114, 97] (by decide) d c s hg v n hn hld
theorem repOnce_fc (hm : ShaIn G) (hr : RefIn G) (xs : List ActR) (hl : xs.length ≤ 9223372036854775807) (hok : ∀ m, m < xs.length → ActROk (el xs m)) :
  FP G 9 [.sl none xs.length (actsR xs)] [] (.v (.bool true)) [] := by
 have hfl := actsR_len xs
 obtain ⟨x0, h0⟩ : ∃ x, x = rp0 (nd 2) [] 0 0 0 (keysP 4) [114, 97] 0 := ⟨_, rfl⟩
 have f0 := newA_fc hm (nd 2) 0 [] good_new 0 0 (by decide) load_nil
 rw [← h0] at f0
 have r0 : RI x0 0 := by rw [h0]; exact RI.new good_new 0 0 (keysP 4) [114, 97] 0 load_nil
 have b0 : Bd x0 0 := by rw [h0]; exact new_bd _ _ _ _ 0 0 (Nat.le_refl _)
 refine FC.of_wp [2] Tryz.func9 rfl rfl rfl rfl ⟨⟨(fun k hk => by cases hk), actsR_bel _ _⟩, trivial⟩ trivial (Nat.le_of_ble_eq_true rfl) ?_
 intro A hG hnA hAB
 unfold start
 refine WP.rs hG (Ch.asg rfl rfl (Ch.nil (WP.rs hG (Ch.callP (rawake_fc hm hr) gdN .nil .n (by rfl) rfl ?_))))
 refine Ch.asg rfl rfl (Ch.nil (WP.rs hG (Ch.callS (vals_fc hr) gdN .nil .n (by simp) rfl ?_)))
 refine Ch.asg rfl rfl (Ch.nil (WP.rs hG ?_))
 refine Ch.cH (newDisk_fc) [] 0 gdN .nil .n rfl (by refine ⟨?_, ?_, ?_, ?_⟩ <;> first | ((conv => lhs; simp only [nrmA, Nat.reduceAdd, renL_tbs, renL_tb1, renL_bks, renL_b1, renL_vs, renL_v1, ren_vt, pend_ren, ren_ss]); all_goals rfl) | rfl) (by exact trivial) (by exact ⟨rfl, trivial⟩) rfl ?_
 refine Ch.asg rfl rfl (Ch.nil (WP.seq (WP.rs hG (Ch.mv rfl rfl (Ch.p1 rfl (OpS.not) rfl (Ch.mv rfl rfl (Ch.gm rfl rfl rfl rfl (Ch.g2 rfl rfl rfl rfl (OpS.eqNil (.p _ _) rfl) rfl (Ch.p2 rfl rfl (OpS.pickF) rfl ?_)))))))))
 refine Ch.nil (WP.cond_false rfl (WP.skip (WP.rs hG (Ch.mv rfl rfl (Ch.mv rfl rfl ?_)))))
 refine Ch.cH (f0) [0] 1 gdN (.cons rfl (.cons rfl (.cons rfl (.cons rfl .nil)))) (.c (.rfl _) (.c (AV.wk.sh (by simp; first | done | fail)) (.c (.rfl _) (.c (.rfl _) .n)))) rfl (by refine ⟨?_, ?_, ?_, ?_⟩ <;> first | ((conv => lhs; simp only [nrmA, Nat.reduceAdd, renL_tbs, renL_tb1, renL_bks, renL_b1, renL_vs, renL_v1, ren_vt, pend_ren, ren_ss]); all_goals rfl) | rfl) (by exact ⟨rfl, trivial⟩) (by exact ⟨rfl, rfl, rfl, rfl, rfl, rfl, rfl, rfl, rfl, trivial⟩) rfl ?_
 refine Ch.asg rfl rfl (Ch.nil (WP.seq (WP.rs hG (Ch.mv rfl rfl (Ch.p2 rfl rfl (OpS.eqNil (.p _ _) rfl) rfl (Ch.nil (WP.cond_false rfl (WP.skip (WP.rs hG ?_)))))))))
 refine Ch.asg rfl rfl (Ch.nil (WP.seq (WP.from (SEnt.nilTip (t := 7) 10 22 1 rfl rfl) (WP.rs hG (Ch.asg rfl rfl (Ch.nil (WP.block ?_)))))))
 refine WP.loop (fun k σ => ∃ (m c : Nat) (x : Rp) (vs : List UInt64), (m + k = 25 ∧ m ≤ xs.length ∧ c ≤ 2 * m ∧ vs.length ≤ m ∧ RI x c ∧ Bd x m ∧ Up vs x.vo) ∧ σ = ⟨136, ls [(0, .sl none xs.length (actsR xs)), (4, .sl none (3 + 1) ((keysP 4).flatMap vA)), (5, .ptr 0 0), (6, .ptr 2 0), (7, .sl (some 10) vs.length (vs.map uvA)), (8, .v (.int .i64 (m : Int)))], lh [(0, .cells 105 (dkC x.d)), (1, .cells 129 (jC x.s x.c x.lost)), (2, .cells 94 (rpC x 5 9)), (3, .cells 140 [.sl (some 4) x.tr.length (x.tr.flatMap tbA)]), (4, .tip 137 2 x.tr.length), (5, .tip 97 3 x.bs.length), (6, .cells 142 (kyC x)), (7, .tip 9 1 (leavesT x.seed 5).length), (8, .map x.tm), (9, .tip 9 1 x.sg.length), (10, .tip 22 1 vs.length)], blt 11⟩) (25) (Ent.of [0, 1, 2, 3, 4, 5, 6, 7, 8, 9, 10] ?_ ?_ ?_ ?_).se ⟨0, 0, x0, [], ⟨by omega, by omega, by omega, Nat.zero_le _, r0, b0, up_nil _⟩, rfl⟩ ?_
 · exact na_of hnA rfl
 · (repeat (first | exact trivial | (refine And.intro ⟨(by first | trivial | (simp; first | done | fail)), _, rfl, (by first | exact .rfl _ | exact .of_eq (by simp [renL_vs, actsR_ren]; first | done | fail))⟩ ?_)))
 · (repeat (first | exact trivial | (refine And.intro ⟨rfl, (by first | trivial | (simp; first | done | fail)), (by first | rfl | (simp [renL_tbs, renL_bks, renL_vs, pend_ren]; first | done | fail))⟩ ?_)))
 · exact nd_of rfl
 ·
  rintro k σ ⟨m, c, x, vs, ⟨hmk, hml, hcm, hvl, hRI, hBd, hUp⟩, rfl⟩
  refine WP.seq ?_
  rcases (show (m < xs.length ∧ m < 25) ∨ (m < xs.length ∧ ¬ m < 25) ∨ ¬ m < xs.length by omega) with hq | hq | hq
  ·
   have hs := hq
   refine WP.rs hG (Ch.mv rfl rfl (Ch.mv rfl rfl (Ch.p1 rfl (OpS.len rfl) rfl (Ch.p2 rfl rfl (OpS.lssT (by omega)) rfl ?_))))
   refine Ch.mv rfl rfl (Ch.gm rfl rfl rfl rfl (Ch.g2 rfl rfl rfl rfl (OpS.lssT (by omega)) rfl ?_))
   refine Ch.p2 rfl rfl (OpS.pickT) rfl (Ch.nil (WP.cond_true rfl (WP.skip (WP.seq (WP.block ?_)))))
   have hat := actsR_at xs m hs.1
   obtain ⟨ha1, ha2, ha3, ha4, ha5⟩ := hok m hs.1
   obtain ⟨a, haa⟩ : ∃ a, a = el xs m := ⟨_, rfl⟩
   rw [← haa] at hat ha1 ha2 ha3 ha4 ha5
   have hplt := pickW_lt a.which 12 (by decide)
   have fp := lpick_fc (G := G) a.which 12 ha3.1 ha3.2 (by decide) (by decide)
   obtain ⟨p, hp⟩ : ∃ p, p = pickW a.which 12 := ⟨_, rfl⟩
   rw [← hp] at hplt fp
   have fl := rLead_fc (G := G) (UInt64.ofNat (p + 1))
   have ff := rFirst_fc hm
   have fi := rID_fc hm (UInt64.ofNat (p + 1)) firstT (a.text.take (min a.text.length 3)) (by rw [firstT_32, List.length_take]; omega)
   have fw := lpick_fc (G := G) a.what 4 ha1.1 ha1.2 (by decide) (by decide)
   have fq := lpick_fc (G := G) a.who 4 ha2.1 ha2.2 (by decide) (by decide)
   have hqlt := pickW_lt a.who 4 (by decide)
   have f7 := lpick_fc (G := G) a.what 7 ha1.1 ha1.2 (by decide) (by decide)
   have harm := dkArm_fc (G := G) x.d ((pickW a.who 4 : Nat) : Int) (by omega)
   have hpn := tprop_pn p hplt a
   refine WP.rs hG (Ch.mv rfl rfl (Ch.mv rfl rfl (Ch.p2 rfl rfl (OpS.indexAddrE (sz := 14) (cs' := acR a) rfl rfl rfl (by omega) (by omega) hfl (by decide) (by rw [Int.toNat_natCast]; exact hat)) rfl ?_)))
   refine Ch.p1 rfl (OpS.loadSA rfl rfl (by rfl)) rfl ?_
   refine Ch.a0 (OpS.alloc 11 rfl rfl (by decide)) rfl rfl ?_
   refine Ch.ws rfl rfl (OpS.storePA (cs := [.v (.int .i64 0), .v (.int .i64 0), .v (.int .i64 0), sA [], .v (.int .i64 0), .v (.int .i64 0), .v (.int .i64 0), .v (.int .u64 0), sA [], sA [], sA [], sA [], .v (.slice none 0 0), .v (.slice none 0 0)]) (c := .agg (acR a)) rfl rfl (acR_one a) (by exact Nat.le_refl 14)) rfl ?_
   refine Ch.nil (WP.rs hG (Ch.p1 rfl (OpS.fieldAddr rfl rfl rfl rfl) rfl (Ch.q1 rfl (OpS.loadP rfl rfl rfl) rfl rfl (Ch.callP (fp) gdN (.cons rfl (.cons rfl .nil)) (.c (.rfl _) (.c (.rfl _) .n)) (by rfl) rfl ?_))))
   refine Ch.p2 rfl rfl (OpS.inc p (by omega) (by omega)) rfl ?_
   refine Ch.p1 rfl (OpS.conv (v := .int .u64 (U64 (UInt64.ofNat (p + 1)))) rfl rfl (ofN_succ p (by omega))) rfl ?_
   refine Ch.asg rfl rfl (Ch.nil (WP.rsD (by kernel_rfl) hG (Ch.mv rfl rfl (Ch.callP (fl) gdN (.cons rfl .nil) (.c (.rfl _) .n) (by rfl) rfl ?_))))
   refine Ch.mv rfl rfl (Ch.callP (ff) gdN .nil .n (by rfl) rfl ?_)
   refine Ch.p1 rfl (OpS.fieldAddr rfl rfl rfl rfl) rfl (Ch.q1 rfl (OpS.loadP rfl rfl rfl) rfl rfl (Ch.p1 rfl (OpS.fieldAddr rfl rfl rfl rfl) rfl (Ch.q1 rfl (OpS.loadP rfl rfl rfl) rfl rfl (Ch.p1 rfl (OpS.lenS rfl) rfl (Ch.p2 rfl rfl (OpS.minI (min3 _)) rfl (Ch.p2 rfl rfl (OpS.sliceSh (l := a.text) rfl (by with_reducible exact Int.toNat_natCast _) (by omega) (by omega)) rfl ?_))))))
   refine Ch.pup gdN (by repeat (first | exact EvP.nil | (apply EvP.cons; exact rfl))) (OpS.build (cs := ntA ⟨1, (leadT (UInt64.ofNat (p + 1)) : Int), -1, UInt64.ofNat (p + 1), [], firstT, (a.text.take (min a.text.length 3)), [], none⟩) rfl rfl rfl rfl rfl (by rfl)) rfl ?_
   refine Ch.a0 (OpS.alloc 12 rfl rfl rfl) rfl rfl (Ch.ws rfl rfl (OpS.storePA (cs := ntA nt0) (c := .agg (ntA ⟨1, (leadT (UInt64.ofNat (p + 1)) : Int), -1, UInt64.ofNat (p + 1), [], firstT, (a.text.take (min a.text.length 3)), [], none⟩)) rfl rfl rfl (by exact Nat.le_refl 9)) rfl ?_)
   refine Ch.nilD ?_ (by kernel_rfl)
   refine WP.rs hG (Ch.mv rfl rfl (Ch.p1 rfl (OpS.fieldAddr rfl rfl rfl rfl) rfl (Ch.q1 rfl (OpS.loadP rfl rfl rfl) rfl rfl (Ch.p1 rfl (OpS.fieldAddr rfl rfl rfl rfl) rfl (Ch.q1 rfl (OpS.loadP rfl rfl rfl) rfl rfl (Ch.callP (fi) gdN (.cons rfl (.cons rfl (.cons rfl .nil))) (.c (.rfl _) (.c (.rfl _) (.c (.rfl _) .n))) (by rfl) rfl ?_))))))
   refine Ch.p1 rfl (OpS.fieldAddr rfl rfl rfl rfl) rfl (Ch.ws rfl rfl (OpS.storeP (cs := ntA ⟨1, (leadT (UInt64.ofNat (p + 1)) : Int), -1, UInt64.ofNat (p + 1), [], firstT, (a.text.take (min a.text.length 3)), [], none⟩) rfl rfl rfl (by exact Nat.le_of_ble_eq_true rfl)) rfl ?_)
   refine Ch.nil ?_
   refine WP.seqJ (fun σ => ∃ x2 : Rp, (RI x2 c ∧ Bd x2 m ∧ Up vs x2.vo) ∧ σ = ⟨136, ls [(0, .sl none xs.length (actsR xs)), (4, .sl none (3 + 1) ((keysP 4).flatMap vA)), (5, .ptr 0 0), (6, .ptr 2 0), (7, .sl (some 10) vs.length (vs.map uvA)), (8, .v (.int .i64 (m : Int))), (9, .ptr 11 0), (10, .v (.int .u64 (U64 (UInt64.ofNat (p + 1))))), (11, .ptr 12 0)], lh [(0, .cells 105 (dkC x2.d)), (1, .cells 129 (jC x2.s x2.c x2.lost)), (2, .cells 94 (rpC x2 5 9)), (3, .cells 140 [.sl (some 4) x2.tr.length (x2.tr.flatMap tbA)]), (4, .tip 137 2 x2.tr.length), (5, .tip 97 3 x2.bs.length), (6, .cells 142 (kyC x2)), (7, .tip 9 1 (leavesT x2.seed 5).length), (8, .map x2.tm), (9, .tip 9 1 x2.sg.length), (10, .tip 22 1 vs.length), (11, .cells 61 (acR a)), (12, .cells 46 (ntA ⟨1, (leadT (UInt64.ofNat (p + 1)) : Int), -1, UInt64.ofNat (p + 1), idT (UInt64.ofNat (p + 1)) firstT (a.text.take (min a.text.length 3)), firstT, (a.text.take (min a.text.length 3)), [], none⟩))], blt 13⟩) ?_ ?_
   ·
    skip
    rcases (show (((pickW a.what 4 : Nat) : Int) = 0) ∨ ((pickW a.what 4 : Nat) : Int) ≠ 0 by omega) with hq | hq
    ·
     have hs := hq
     refine WP.rs hG (Ch.p1 rfl (OpS.fieldAddr rfl rfl rfl rfl) rfl (Ch.q1 rfl (OpS.loadP rfl rfl rfl) rfl rfl (Ch.callP (fw) gdN (.cons rfl (.cons rfl .nil)) (.c (.rfl _) (.c (.rfl _) .n)) (by rfl) rfl ?_)))
     refine Ch.p2 rfl rfl (OpS.eqlT hs) rfl (Ch.nil (WP.cond_true rfl (WP.rg hG (Ch.mv rfl rfl (Ch.p1 rfl (OpS.fieldAddr rfl rfl rfl rfl) rfl (Ch.q1 rfl (OpS.loadP rfl rfl rfl) rfl rfl (Ch.callP (fq) gdN (.cons rfl (.cons rfl .nil)) (.c (.rfl _) (.c (.rfl _) .n)) (by rfl) rfl ?_)))))))
     refine Ch.cH (harm) [0] 13 gdN (.cons rfl (.cons rfl .nil)) (.c (.rfl _) (.c (.rfl _) .n)) rfl (by refine ⟨?_, ?_, ?_, ?_⟩ <;> first | ((conv => lhs; simp only [nrmA, Nat.reduceAdd, renL_tbs, renL_tb1, renL_bks, renL_b1, renL_vs, renL_v1, ren_vt, pend_ren, ren_ss]); all_goals rfl) | rfl) (by exact ⟨rfl, trivial⟩) (by exact trivial) rfl ?_
     refine Ch.nil ?_
     refine ⟨_, (Ent.of [0, 1, 2, 3, 4, 5, 6, 7, 8, 9, 10, 11, 12] ?_ ?_ ?_ ?_).se, { x with d := { x.d with left := armL ((pickW a.who 4 : Nat) : Int) } }, ⟨hRI.arm _ (by omega), ⟨hBd.n, hBd.tr, hBd.sg, hBd.sd⟩, hUp⟩, rfl⟩
     · exact na_of hnA rfl
     · (repeat (first | exact trivial | (refine And.intro ⟨(by first | trivial | (simp; first | done | fail)), _, rfl, (by first | exact .rfl _ | exact .of_eq (by simp [renL_vs, actsR_ren, renL_u]; first | done | fail))⟩ ?_)))
     · (repeat (first | exact trivial | (refine And.intro ⟨rfl, (by first | trivial | (simp; first | done | fail)), (by first | rfl | (simp [renL_tbs, renL_bks, renL_vs, pend_ren, ren_ss, renL_i, splice, cellsA]; first | done | fail))⟩ ?_)))
     · exact nd_of rfl
    ·
     have hs := hq
     refine WP.rs hG (Ch.p1 rfl (OpS.fieldAddr rfl rfl rfl rfl) rfl (Ch.q1 rfl (OpS.loadP rfl rfl rfl) rfl rfl (Ch.callP (fw) gdN (.cons rfl (.cons rfl .nil)) (.c (.rfl _) (.c (.rfl _) .n)) (by rfl) rfl ?_)))
     refine Ch.p2 rfl rfl (OpS.eqlF hs) rfl (Ch.nil (WP.cond_false rfl (WP.skip ?_)))
     refine ⟨_, (Ent.of [0, 1, 2, 3, 4, 5, 6, 7, 8, 9, 10, 11, 12] ?_ ?_ ?_ ?_).se, x, ⟨hRI, hBd, hUp⟩, rfl⟩
     · exact na_of hnA rfl
     · (repeat (first | exact trivial | (refine And.intro ⟨(by first | trivial | (simp; first | done | fail)), _, rfl, (by first | exact .rfl _ | exact .of_eq (by simp [renL_vs, actsR_ren, renL_u]; first | done | fail))⟩ ?_)))
     · (repeat (first | exact trivial | (refine And.intro ⟨rfl, (by first | trivial | (simp; first | done | fail)), (by first | rfl | (simp [renL_tbs, renL_bks, renL_vs, pend_ren, ren_ss, renL_i, splice, cellsA]; first | done | fail))⟩ ?_)))
     · exact nd_of rfl
   ·
    rintro σ ⟨x2, ⟨hR2, hB2, hU2⟩, rfl⟩
    have hn2 := hB2.n
    have ht2 := hB2.tr
    have hg2 := hB2.sg
    refine WP.seqJ (fun σ => ∃ (x3 : Rp) (c3 : Nat) (v : Nt) (ok : Bool), (c3 ≤ c + 1 ∧ ((ok = false ∧ Aft x3 c3 (m + 1) vs) ∨ (ok = true ∧ v.id = idT (UInt64.ofNat (p + 1)) firstT (a.text.take (min a.text.length 3)) ∧ v.view = UInt64.ofNat (p + 1) ∧ x2.vo.toNat < (UInt64.ofNat (p + 1)).toNat ∧ Aft x3 c3 (m + 1) (vs ++ [UInt64.ofNat (p + 1)])))) ∧ σ = ⟨136, ls [(0, .sl none xs.length (actsR xs)), (4, .sl none (3 + 1) ((keysP 4).flatMap vA)), (5, .ptr 0 0), (6, .ptr 2 0), (7, .sl (some 10) vs.length (vs.map uvA)), (8, .v (.int .i64 (m : Int))), (9, .ptr 11 0), (10, .v (.int .u64 (U64 (UInt64.ofNat (p + 1))))), (11, .ptr 12 0), (12, .ptr 13 0), (13, .v (.bool ok))], lh [(0, .cells 105 (dkC x3.d)), (1, .cells 129 (jC x3.s x3.c x3.lost)), (2, .cells 94 (rpC x3 5 9)), (3, .cells 140 [.sl (some 4) x3.tr.length (x3.tr.flatMap tbA)]), (4, .tip 137 2 x3.tr.length), (5, .tip 97 3 x3.bs.length), (6, .cells 142 (kyC x3)), (7, .tip 9 1 (leavesT x3.seed 5).length), (8, .map x3.tm), (9, .tip 9 1 x3.sg.length), (10, .tip 22 1 vs.length), (11, .cells 61 (acR a)), (12, .cells 46 (ntA ⟨1, (leadT (UInt64.ofNat (p + 1)) : Int), -1, UInt64.ofNat (p + 1), idT (UInt64.ofNat (p + 1)) firstT (a.text.take (min a.text.length 3)), firstT, (a.text.take (min a.text.length 3)), [], none⟩)), (13, .cells 46 (ntA v))], blt 14⟩) ?_ ?_
    ·
     skip
     rcases step_rec hm hR2 hpn (by omega) (by omega) (by omega) (by omega) hB2.sd with ⟨-, hq⟩ | ⟨-, hv, hq⟩ | ⟨-, hv, e, ge, -, hq⟩ | ⟨-, hv, -, e, hp', hde, hq⟩
     ·
      have hs := hq
      refine WP.rg hG (Ch.mv rfl rfl (Ch.q1 rfl (OpS.loadPA (off := 0) (sz := 9) (cs := ntA ⟨1, (leadT (UInt64.ofNat (p + 1)) : Int), -1, UInt64.ofNat (p + 1), idT (UInt64.ofNat (p + 1)) firstT (a.text.take (min a.text.length 3)), firstT, (a.text.take (min a.text.length 3)), [], none⟩) rfl rfl rfl rfl (by exact Nat.le_refl 9)) rfl rfl ?_))
      refine Ch.cH (hs) [0,1,2,3,4,5,6,7,8,9] 13 gdN (.cons rfl (.cons rfl .nil)) (.c (.rfl _) (.c (.rfl _) .n)) rfl (by refine ⟨?_, ?_, ?_, ?_⟩ <;> first | ((conv => lhs; simp only [nrmA, Nat.reduceAdd, renL_tbs, renL_tb1, renL_bks, renL_b1, renL_vs, renL_v1, ren_vt, pend_ren, ren_ss]); all_goals rfl) | rfl) (by exact ⟨rfl, rfl, rfl, rfl, rfl, rfl, rfl, rfl, rfl, rfl, trivial⟩) (by exact trivial) rfl ?_
      refine Ch.mv rfl rfl (Ch.p1 rfl (OpS.extract rfl) rfl (Ch.p1 rfl (OpS.extract rfl) rfl (Ch.a0 (OpS.alloc 20 rfl rfl rfl) rfl rfl (Ch.ws rfl rfl (OpS.storePA (cs := ntA nt0) (c := .agg (ntA nt0)) rfl rfl (nt_one nt0) (by exact Nat.le_refl 9)) rfl ?_))))
      refine Ch.asg rfl rfl (Ch.nil ?_)
      refine ⟨_, (Ent.of [0, 1, 2, 3, 4, 5, 6, 7, 8, 9, 10, 11, 12, 20] ?_ ?_ ?_ ?_).se, x2, c, nt0, false, ⟨by omega, .inl ⟨rfl, aft_same hR2 hB2 hU2⟩⟩, rfl⟩
      · exact na_of hnA rfl
      · (repeat (first | exact trivial | (refine And.intro ⟨(by first | trivial | (simp; first | done | fail)), _, rfl, (by first | exact .rfl _ | exact .of_eq (by simp [renL_vs, actsR_ren, renL_u]; first | done | fail))⟩ ?_)))
      · (repeat (first | exact trivial | (refine And.intro ⟨rfl, (by first | trivial | (simp; first | done | fail)), (by first | rfl | (simp [renL_tbs, renL_bks, renL_vs, pend_ren, ren_ss, renL_i, splice, cellsA]; first | done | fail))⟩ ?_)))
      · exact nd_of rfl
     ·
      have hs := hq
      refine WP.rg hG (Ch.mv rfl rfl (Ch.q1 rfl (OpS.loadPA (off := 0) (sz := 9) (cs := ntA ⟨1, (leadT (UInt64.ofNat (p + 1)) : Int), -1, UInt64.ofNat (p + 1), idT (UInt64.ofNat (p + 1)) firstT (a.text.take (min a.text.length 3)), firstT, (a.text.take (min a.text.length 3)), [], none⟩) rfl rfl rfl rfl (by exact Nat.le_refl 9)) rfl rfl ?_))
      refine Ch.cH (hs) [0,1,2,3,4,5,6,7,8,9] 13 gdN (.cons rfl (.cons rfl .nil)) (.c (.rfl _) (.c (.rfl _) .n)) rfl (by refine ⟨?_, ?_, ?_, ?_⟩ <;> first | ((conv => lhs; simp only [nrmA, Nat.reduceAdd, renL_tbs, renL_tb1, renL_bks, renL_b1, renL_vs, renL_v1, ren_vt, pend_ren, ren_ss]); all_goals rfl) | rfl) (by exact ⟨rfl, rfl, rfl, rfl, rfl, rfl, rfl, rfl, rfl, rfl, trivial⟩) (by exact ⟨rfl, rfl, trivial⟩) rfl ?_
      refine Ch.mv rfl rfl (Ch.p1 rfl (OpS.extract rfl) rfl (Ch.p1 rfl (OpS.extract rfl) rfl (Ch.a0 (OpS.alloc 20 rfl rfl rfl) rfl rfl (Ch.ws rfl rfl (OpS.storePA (cs := ntA nt0) (c := .agg (ntA nt0)) rfl rfl (nt_one nt0) (by exact Nat.le_refl 9)) rfl ?_))))
      refine Ch.asg rfl rfl (Ch.nil ?_)
      refine ⟨_, (Ent.of [0, 1, 2, 3, 13, 14, 6, 7, 8, 9, 10, 11, 12, 20] ?_ ?_ ?_ ?_).se, learnR x2 ⟨1, (leadT (UInt64.ofNat (p + 1)) : Int), -1, UInt64.ofNat (p + 1), idT (UInt64.ofNat (p + 1)) firstT (a.text.take (min a.text.length 3)), firstT, (a.text.take (min a.text.length 3)), [], none⟩, c, nt0, false, ⟨by omega, .inl ⟨rfl, aft_learn hR2 hB2 hU2 (by omega) hv⟩⟩, rfl⟩
      · exact na_of hnA rfl
      · (repeat (first | exact trivial | (refine And.intro ⟨(by first | trivial | (simp; first | done | fail)), _, rfl, (by first | exact .rfl _ | exact .of_eq (by simp [renL_vs, actsR_ren, renL_u]; first | done | fail))⟩ ?_)))
      · (repeat (first | exact trivial | (refine And.intro ⟨rfl, (by first | trivial | (simp; first | done | fail)), (by first | rfl | (simp [renL_tbs, renL_bks, renL_vs, pend_ren, ren_ss, renL_i, splice, cellsA]; first | done | fail))⟩ ?_)))
      · exact nd_of rfl
     ·
      have hs := hq
      obtain ⟨v, hv2⟩ : ∃ v, v = voteN (learnR x2 ⟨1, (leadT (UInt64.ofNat (p + 1)) : Int), -1, UInt64.ofNat (p + 1), idT (UInt64.ofNat (p + 1)) firstT (a.text.take (min a.text.length 3)), firstT, (a.text.take (min a.text.length 3)), [], none⟩) ⟨1, (leadT (UInt64.ofNat (p + 1)) : Int), -1, UInt64.ofNat (p + 1), idT (UInt64.ofNat (p + 1)) firstT (a.text.take (min a.text.length 3)), firstT, (a.text.take (min a.text.length 3)), [], none⟩ := ⟨_, rfl⟩
      rw [← hv2] at hs
      have hvid : v.id = idT (UInt64.ofNat (p + 1)) firstT (a.text.take (min a.text.length 3)) := by rw [hv2]; with_unfolding_all rfl
      have hvv : v.view = UInt64.ofNat (p + 1) := by rw [hv2]; with_unfolding_all rfl
      refine WP.rg hG (Ch.mv rfl rfl (Ch.q1 rfl (OpS.loadPA (off := 0) (sz := 9) (cs := ntA ⟨1, (leadT (UInt64.ofNat (p + 1)) : Int), -1, UInt64.ofNat (p + 1), idT (UInt64.ofNat (p + 1)) firstT (a.text.take (min a.text.length 3)), firstT, (a.text.take (min a.text.length 3)), [], none⟩) rfl rfl rfl rfl (by exact Nat.le_refl 9)) rfl rfl ?_))
      refine Ch.cH (hs) [0,1,2,3,4,5,6,7,8,9] 13 gdN (.cons rfl (.cons rfl .nil)) (.c (.rfl _) (.c (.rfl _) .n)) rfl (by refine ⟨?_, ?_, ?_, ?_⟩ <;> first | ((conv => lhs; simp only [nrmA, Nat.reduceAdd, renL_tbs, renL_tb1, renL_bks, renL_b1, renL_vs, renL_v1, ren_vt, pend_ren, ren_ss]); all_goals rfl) | rfl) (by exact ⟨rfl, rfl, rfl, rfl, rfl, rfl, rfl, rfl, rfl, rfl, trivial⟩) (by exact ⟨rfl, rfl, rfl, trivial⟩) rfl ?_
      refine Ch.mv rfl rfl (Ch.p1 rfl (OpS.extract rfl) rfl (Ch.p1 rfl (OpS.extract rfl) rfl (Ch.a0 (OpS.alloc 20 rfl rfl rfl) rfl rfl (Ch.ws rfl rfl (OpS.storePA (cs := ntA nt0) (c := .agg (ntA v)) rfl rfl (nt_one v) (by exact Nat.le_refl 9)) rfl ?_))))
      refine Ch.asg rfl rfl (Ch.nil ?_)
      refine ⟨_, (Ent.of [0, 1, 2, 3, 13, 14, 6, 7, 8, 15, 10, 11, 12, 20] ?_ ?_ ?_ ?_).se, voteR x2 ⟨1, (leadT (UInt64.ofNat (p + 1)) : Int), -1, UInt64.ofNat (p + 1), idT (UInt64.ofNat (p + 1)) firstT (a.text.take (min a.text.length 3)), firstT, (a.text.take (min a.text.length 3)), [], none⟩ e (c + 1), c + 1, v, true, ⟨by omega, .inr ⟨rfl, hvid, hvv, hv, aft_vote hR2 hB2 (by omega) hpn hv ge⟩⟩, rfl⟩
      · exact na_of hnA rfl
      · (repeat (first | exact trivial | (refine And.intro ⟨(by first | trivial | (simp; first | done | fail)), _, rfl, (by first | exact .rfl _ | exact .of_eq (by simp [renL_vs, actsR_ren, renL_u]; first | done | fail))⟩ ?_)))
      · (repeat (first | exact trivial | (refine And.intro ⟨rfl, (by first | trivial | (simp; first | done | fail)), (by first | rfl | (simp [renL_tbs, renL_bks, renL_vs, pend_ren, ren_ss, renL_i, splice, cellsA]; first | done | fail))⟩ ?_)))
      · exact nd_of rfl
     ·
      have hs := hq
      refine WP.rg hG (Ch.mv rfl rfl (Ch.q1 rfl (OpS.loadPA (off := 0) (sz := 9) (cs := ntA ⟨1, (leadT (UInt64.ofNat (p + 1)) : Int), -1, UInt64.ofNat (p + 1), idT (UInt64.ofNat (p + 1)) firstT (a.text.take (min a.text.length 3)), firstT, (a.text.take (min a.text.length 3)), [], none⟩) rfl rfl rfl rfl (by exact Nat.le_refl 9)) rfl rfl ?_))
      refine Ch.cH (hs) [0,1,2,3,4,5,6,7,8,9] 13 gdN (.cons rfl (.cons rfl .nil)) (.c (.rfl _) (.c (.rfl _) .n)) rfl (by refine ⟨?_, ?_, ?_, ?_⟩ <;> first | ((conv => lhs; simp only [nrmA, Nat.reduceAdd, renL_tbs, renL_tb1, renL_bks, renL_b1, renL_vs, renL_v1, ren_vt, pend_ren, ren_ss]); all_goals rfl) | rfl) (by exact ⟨rfl, rfl, rfl, rfl, rfl, rfl, rfl, rfl, rfl, rfl, trivial⟩) (by exact ⟨rfl, rfl, trivial⟩) rfl ?_
      refine Ch.mv rfl rfl (Ch.p1 rfl (OpS.extract rfl) rfl (Ch.p1 rfl (OpS.extract rfl) rfl (Ch.a0 (OpS.alloc 20 rfl rfl rfl) rfl rfl (Ch.ws rfl rfl (OpS.storePA (cs := ntA nt0) (c := .agg (ntA nt0)) rfl rfl (nt_one nt0) (by exact Nat.le_refl 9)) rfl ?_))))
      refine Ch.asg rfl rfl (Ch.nil ?_)
      refine ⟨_, (Ent.of [0, 1, 2, 3, 13, 14, 6, 7, 8, 9, 10, 11, 12, 20] ?_ ?_ ?_ ?_).se, dieR x2 ⟨1, (leadT (UInt64.ofNat (p + 1)) : Int), -1, UInt64.ofNat (p + 1), idT (UInt64.ofNat (p + 1)) firstT (a.text.take (min a.text.length 3)), firstT, (a.text.take (min a.text.length 3)), [], none⟩ e, c, nt0, false, ⟨by omega, .inl ⟨rfl, aft_die hR2 hB2 (by omega) hU2 hpn hv hp'⟩⟩, rfl⟩
      · exact na_of hnA rfl
      · (repeat (first | exact trivial | (refine And.intro ⟨(by first | trivial | (simp; first | done | fail)), _, rfl, (by first | exact .rfl _ | exact .of_eq (by simp [renL_vs, actsR_ren, renL_u]; first | done | fail))⟩ ?_)))
      · (repeat (first | exact trivial | (refine And.intro ⟨rfl, (by first | trivial | (simp; first | done | fail)), (by first | rfl | (simp [renL_tbs, renL_bks, renL_vs, pend_ren, ren_ss, renL_i, splice, cellsA]; first | done | fail))⟩ ?_)))
      · exact nd_of rfl
    ·
     rintro σ ⟨x3, c3, v, ok, ⟨hc3, hO⟩, rfl⟩
     refine WP.seqJ (fun σ => ∃ (x4 : Rp) (c4 : Nat) (vs4 : List UInt64), (Aft x4 c4 (m + 1) vs4 ∧ c4 ≤ c + 1 ∧ vs4.length ≤ m + 1) ∧ σ = ⟨136, ls [(0, .sl none xs.length (actsR xs)), (4, .sl none (3 + 1) ((keysP 4).flatMap vA)), (5, .ptr 0 0), (6, .ptr 2 0), (7, .sl (some 10) vs4.length (vs4.map uvA)), (8, .v (.int .i64 (m : Int))), (9, .ptr 11 0)], lh [(0, .cells 105 (dkC x4.d)), (1, .cells 129 (jC x4.s x4.c x4.lost)), (2, .cells 94 (rpC x4 5 9)), (3, .cells 140 [.sl (some 4) x4.tr.length (x4.tr.flatMap tbA)]), (4, .tip 137 2 x4.tr.length), (5, .tip 97 3 x4.bs.length), (6, .cells 142 (kyC x4)), (7, .tip 9 1 (leavesT x4.seed 5).length), (8, .map x4.tm), (9, .tip 9 1 x4.sg.length), (10, .tip 22 1 vs4.length), (11, .cells 61 (acR a))], blt 12⟩) ?_ ?_
     ·
      skip
      rcases hO with ⟨rfl, hq⟩ | ⟨rfl, hq⟩
      ·
       have hs := hq
       refine WP.rs hG (Ch.mv rfl rfl (Ch.nil (WP.cond_false rfl (WP.skip ?_))))
       refine ⟨_, (Ent.of [0, 1, 2, 3, 4, 5, 6, 7, 8, 9, 10, 11] ?_ ?_ ?_ ?_).se, x3, c3, vs, ⟨hs, by omega, by omega⟩, rfl⟩
       · exact na_of hnA rfl
       · (repeat (first | exact trivial | (refine And.intro ⟨(by first | trivial | (simp; first | done | fail)), _, rfl, (by first | exact .rfl _ | exact .of_eq (by simp [renL_vs, actsR_ren, renL_u]; first | done | fail))⟩ ?_)))
       · (repeat (first | exact trivial | (refine And.intro ⟨rfl, (by first | trivial | (simp; first | done | fail)), (by first | rfl | (simp [renL_tbs, renL_bks, renL_vs, pend_ren, ren_ss, renL_i]; first | done | fail))⟩ ?_)))
       · exact nd_of rfl
      ·
       have hs := hq
       obtain ⟨hvid, hvv, hlast, haft⟩ := hs
       have e1 : ∀ u : UInt64, U64 u = (u.toNat : Int) := fun _ => rfl
       refine WP.rs hG (Ch.mv rfl rfl (Ch.nil (WP.cond_true rfl (WP.seq ?_))))
       rcases Nat.eq_zero_or_pos vs.length with hq | hq
       ·
        have hs := hq
        refine WP.rs hG (Ch.p1 rfl (OpS.fieldAddr rfl rfl rfl rfl) rfl (Ch.q1 rfl (OpS.loadP rfl rfl rfl) rfl rfl (Ch.p1 rfl (OpS.fieldAddr rfl rfl rfl rfl) rfl (Ch.q1 rfl (OpS.loadP rfl rfl rfl) rfl rfl (Ch.p2 rfl rfl (OpS.strNeB (c := false) (by rw [hvid]; simp)) rfl ?_)))))
        refine Ch.mv rfl rfl (Ch.g1 rfl rfl rfl (OpS.fieldAddr rfl rfl rfl rfl) rfl (Ch.pu (by exact gdT rfl rfl) (by exact ⟨rfl, trivial⟩) (OpS.loadP rfl rfl rfl) (by exact ⟨rfl, trivial⟩) rfl ?_))
        refine Ch.gm rfl rfl rfl rfl (Ch.g2 rfl rfl rfl rfl (OpS.neqF (by rw [hvv])) rfl ?_)
        refine Ch.p2 rfl rfl (OpS.pickF) rfl (Ch.mv rfl rfl (Ch.gm rfl rfl rfl rfl (Ch.g1 rfl rfl rfl (OpS.len rfl) rfl (Ch.g2 rfl rfl rfl rfl (OpS.gtrF (by omega)) rfl ?_))))
        refine Ch.gm rfl rfl rfl rfl (Ch.skU (gdF rfl rfl rfl) rfl (Ch.skU (gdF rfl rfl rfl) rfl (Ch.skU (gdF rfl rfl rfl) rfl (Ch.skU (gdF rfl rfl rfl) rfl (Ch.skU (gdF rfl rfl rfl) rfl (Ch.skU (gdF rfl rfl rfl) rfl (Ch.skU (gdF rfl rfl rfl) rfl (Ch.skU (gdF rfl rfl rfl) rfl (Ch.g2 rfl rfl rfl rfl (OpS.pickF) rfl ?_)))))))))
        refine Ch.p2 rfl rfl (OpS.pickF) rfl (Ch.nil (WP.cond_false rfl (WP.skip (WP.rg hG (Ch.mv rfl rfl (Ch.mv rfl rfl (Ch.pup gdN (by repeat (first | exact EvP.nil | (apply EvP.cons; exact rfl))) (OpS.slice1 (ys := [uvA (UInt64.ofNat (p + 1))]) rfl rfl rfl rfl rfl rfl (by rfl) rfl (by rfl)) rfl ?_)))))))
        refine Ch.a2 rfl rfl (OpS.append (sz := 1) (bb := 8) 21 rfl rfl rfl rfl rfl (by decide) (SrcA.sl rfl (by exact rfl)) (by rw [List.length_map, Nat.mul_one]) rfl (by unfold maxLen; omega) rfl (by omega)) rfl rfl rfl ?_
        refine Ch.asg rfl rfl (Ch.nil ?_)
        refine ⟨_, (Ent.of [0, 1, 2, 3, 4, 5, 6, 7, 8, 9, 21, 11] ?_ ?_ ?_ ?_).se, x3, c3, vs ++ [UInt64.ofNat (p + 1)], ⟨haft, by omega, by rw [List.length_append]; simp; omega⟩, rfl⟩
        · exact na_of hnA rfl
        · (repeat (first | exact trivial | (refine And.intro ⟨(by first | trivial | (simp; first | done | fail)), _, rfl, (by first | exact .rfl _ | exact .of_eq (by simp [renL_vs, actsR_ren, renL_u, renL_append]; first | done | fail))⟩ ?_)))
        · (repeat (first | exact trivial | (refine And.intro ⟨rfl, (by first | trivial | (simp; first | done | fail)), (by first | rfl | (simp [renL_tbs, renL_bks, renL_vs, pend_ren, ren_ss, renL_i]; first | done | fail))⟩ ?_)))
        · exact nd_of rfl
       ·
        have hs := hq
        have hup := hU2 hs
        refine WP.rs hG (Ch.p1 rfl (OpS.fieldAddr rfl rfl rfl rfl) rfl (Ch.q1 rfl (OpS.loadP rfl rfl rfl) rfl rfl (Ch.p1 rfl (OpS.fieldAddr rfl rfl rfl rfl) rfl (Ch.q1 rfl (OpS.loadP rfl rfl rfl) rfl rfl (Ch.p2 rfl rfl (OpS.strNeB (c := false) (by rw [hvid]; simp)) rfl ?_)))))
        refine Ch.mv rfl rfl (Ch.g1 rfl rfl rfl (OpS.fieldAddr rfl rfl rfl rfl) rfl (Ch.pu (by exact gdT rfl rfl) (by exact ⟨rfl, trivial⟩) (OpS.loadP rfl rfl rfl) (by exact ⟨rfl, trivial⟩) rfl ?_))
        refine Ch.gm rfl rfl rfl rfl (Ch.g2 rfl rfl rfl rfl (OpS.neqF (by rw [hvv])) rfl ?_)
        refine Ch.p2 rfl rfl (OpS.pickF) rfl (Ch.mv rfl rfl (Ch.gm rfl rfl rfl rfl (Ch.g1 rfl rfl rfl (OpS.len rfl) rfl (Ch.g2 rfl rfl rfl rfl (OpS.gtrT (by omega)) rfl ?_))))
        refine Ch.gm rfl rfl rfl rfl (Ch.gm rfl rfl rfl rfl (Ch.gm rfl rfl rfl rfl (Ch.gm rfl rfl rfl rfl (Ch.g1 rfl rfl rfl (OpS.len rfl) rfl (Ch.g2 rfl rfl rfl rfl (OpS.int (op := .sub) (v' := .int .i64 ((vs.length - 1 : Nat) : Int)) rfl (by rw [wr64 (by omega)]; exact congrArg (Value.int .i64) (by omega))) rfl ?_)))))
        refine Ch.g2 rfl rfl rfl rfl (OpS.indexM rfl rfl rfl (by with_reducible exact Int.toNat_natCast _) (by omega) (by omega) (by rfl)) rfl ?_
        refine Ch.g1 rfl rfl rfl (OpS.loadS rfl rfl) rfl (Ch.g2 rfl rfl rfl rfl (OpS.leqF (by rw [e1, e1]; omega)) rfl ?_)
        refine Ch.g2 rfl rfl rfl rfl (OpS.pickT) rfl (Ch.p2 rfl rfl (OpS.pickF) rfl (Ch.nil (WP.cond_false rfl (WP.skip (WP.rg hG (Ch.mv rfl rfl (Ch.mv rfl rfl (Ch.pup gdN (by repeat (first | exact EvP.nil | (apply EvP.cons; exact rfl))) (OpS.slice1 (ys := [uvA (UInt64.ofNat (p + 1))]) rfl rfl rfl rfl rfl rfl (by rfl) rfl (by rfl)) rfl ?_))))))))
        refine Ch.a2 rfl rfl (OpS.append (sz := 1) (bb := 8) 21 rfl rfl rfl rfl rfl (by decide) (SrcA.sl rfl (by exact rfl)) (by rw [List.length_map, Nat.mul_one]) rfl (by unfold maxLen; omega) rfl (by omega)) rfl rfl rfl ?_
        refine Ch.asg rfl rfl (Ch.nil ?_)
        refine ⟨_, (Ent.of [0, 1, 2, 3, 4, 5, 6, 7, 8, 9, 21, 11] ?_ ?_ ?_ ?_).se, x3, c3, vs ++ [UInt64.ofNat (p + 1)], ⟨haft, by omega, by rw [List.length_append]; simp; omega⟩, rfl⟩
        · exact na_of hnA rfl
        · (repeat (first | exact trivial | (refine And.intro ⟨(by first | trivial | (simp; first | done | fail)), _, rfl, (by first | exact .rfl _ | exact .of_eq (by simp [renL_vs, actsR_ren, renL_u, renL_append]; first | done | fail))⟩ ?_)))
        · (repeat (first | exact trivial | (refine And.intro ⟨rfl, (by first | trivial | (simp; first | done | fail)), (by first | rfl | (simp [renL_tbs, renL_bks, renL_vs, pend_ren, ren_ss, renL_i]; first | done | fail))⟩ ?_)))
        · exact nd_of rfl
     ·
      rintro σ ⟨x4, c4, vs4, ⟨hA4, hc4, hv4⟩, rfl⟩
      have fAl := rAlive_fc (G := G) x4
      have fcr := crash_fc (G := G) x4.d (aft_wf hA4) a.how ha5
      obtain ⟨c5, s5, hc5, g5, v5, n5, hld5, hn5, hu5⟩ := aft_crash hA4 a.how
      obtain ⟨d5, hd5⟩ : ∃ d, d = crashD x4.d a.how := ⟨_, rfl⟩
      rw [← hd5] at fcr g5
      have fnw := newA_fc hm d5 c5 s5 g5 v5 n5 (by omega) hld5
      have r5 := RI.new g5 v5 0 (keysP 4) [114, 97] n5 hld5
      have b5 := new_bd d5 s5 c5 v5 n5 (m + 1) hn5
      have u5 : Up vs4 (rp0 d5 s5 c5 v5 0 (keysP 4) [114, 97] n5).vo := hu5
      have q5 : (rp0 d5 s5 c5 v5 0 (keysP 4) [114, 97] n5).sg = [] := rfl
      obtain ⟨x5, hx5⟩ : ∃ x, x = rp0 d5 s5 c5 v5 0 (keysP 4) [114, 97] n5 := ⟨_, rfl⟩
      rw [← hx5] at fnw r5 b5 u5 q5
      have f0s := rSigned0_fc (G := G) x5 q5
      rcases (show (x4.dead = false ∧ ((pickW a.what 7 : Nat) : Int) ≠ 1 ∧ RI x4 c4 ∧ Bd x4 (m + 1) ∧ Up vs4 x4.vo) ∨ (x4.dead = false ∧ ((pickW a.what 7 : Nat) : Int) = 1) ∨ x4.dead = true by
       rcases hA4 with h | h
       ·
        by_cases h7 : ((pickW a.what 7 : Nat) : Int) = 1
        · exact .inr (.inl ⟨h.1.dead, h7⟩)
        · exact .inl ⟨h.1.dead, h7, h⟩
       · exact .inr (.inr h.1)) with hq | hq | hq
      ·
       have hs := hq
       rw [hs.1] at fAl
       refine WP.rs hG (Ch.mv rfl rfl ?_)
       refine Ch.cH (fAl) [0,1,2,3,4,5,6,7,8,9] 12 gdN (.cons rfl .nil) (.c (.rfl _) .n) rfl (by refine ⟨?_, ?_, ?_, ?_⟩ <;> first | ((conv => lhs; simp only [nrmA, Nat.reduceAdd, renL_tbs, renL_tb1, renL_bks, renL_b1, renL_vs, renL_v1, ren_vt, pend_ren, ren_ss]); all_goals rfl) | rfl) (by exact ⟨rfl, rfl, rfl, rfl, rfl, rfl, rfl, rfl, rfl, rfl, trivial⟩) (by exact trivial) rfl ?_
       refine Ch.p1 rfl (OpS.not) rfl (Ch.mv rfl rfl (Ch.g1 rfl rfl rfl (OpS.fieldAddr rfl rfl rfl rfl) rfl (Ch.pu (by exact gdT rfl rfl) (by exact ⟨rfl, trivial⟩) (OpS.loadP rfl rfl rfl) (by exact ⟨rfl, trivial⟩) rfl ?_)))
       refine Ch.callP (f7) (gdT rfl rfl) (.cons rfl (.cons rfl .nil)) (.c (.rfl _) (.c (.rfl _) .n)) (by rfl) rfl ?_
       refine Ch.g2 rfl rfl rfl rfl (OpS.eqlF hs.2.1) rfl (Ch.p2 rfl rfl (OpS.pickF) rfl (Ch.nil (WP.cond_false rfl (WP.skip (WP.rg hG (Ch.mv rfl rfl (Ch.p2 rfl rfl (OpS.inc m (by omega) (by omega)) rfl ?_)))))))
       refine Ch.asg rfl rfl (Ch.nil ?_)
       refine ⟨k - 1, _, by omega, (Ent.of [0, 1, 2, 3, 4, 5, 6, 7, 8, 9, 10] ?_ ?_ ?_ ?_).se, m + 1, c4, x4, vs4, ⟨by omega, by omega, by omega, by omega, hs.2.2.1, hs.2.2.2.1, hs.2.2.2.2⟩, rfl⟩
       · exact na_of hnA rfl
       · (repeat (first | exact trivial | (refine And.intro ⟨(by first | trivial | (simp; first | done | fail)), _, rfl, (by first | exact .rfl _ | exact .of_eq (by simp [renL_vs, actsR_ren, renL_u]; first | done | fail))⟩ ?_)))
       · (repeat (first | exact trivial | (refine And.intro ⟨rfl, (by first | trivial | (simp; first | done | fail)), (by first | rfl | (simp [renL_tbs, renL_bks, renL_vs, pend_ren]; first | done | fail))⟩ ?_)))
       · exact nd_of rfl
      ·
       have hs := hq
       rw [hs.1] at fAl
       refine WP.rs hG (Ch.mv rfl rfl ?_)
       refine Ch.cH (fAl) [0,1,2,3,4,5,6,7,8,9] 12 gdN (.cons rfl .nil) (.c (.rfl _) .n) rfl (by refine ⟨?_, ?_, ?_, ?_⟩ <;> first | ((conv => lhs; simp only [nrmA, Nat.reduceAdd, renL_tbs, renL_tb1, renL_bks, renL_b1, renL_vs, renL_v1, ren_vt, pend_ren, ren_ss]); all_goals rfl) | rfl) (by exact ⟨rfl, rfl, rfl, rfl, rfl, rfl, rfl, rfl, rfl, rfl, trivial⟩) (by exact trivial) rfl ?_
       refine Ch.p1 rfl (OpS.not) rfl (Ch.mv rfl rfl (Ch.g1 rfl rfl rfl (OpS.fieldAddr rfl rfl rfl rfl) rfl (Ch.pu (by exact gdT rfl rfl) (by exact ⟨rfl, trivial⟩) (OpS.loadP rfl rfl rfl) (by exact ⟨rfl, trivial⟩) rfl ?_)))
       refine Ch.callP (f7) (gdT rfl rfl) (.cons rfl (.cons rfl .nil)) (.c (.rfl _) (.c (.rfl _) .n)) (by rfl) rfl ?_
       refine Ch.g2 rfl rfl rfl rfl (OpS.eqlT hs.2) rfl (Ch.p2 rfl rfl (OpS.pickF) rfl (Ch.nil (WP.cond_true rfl (WP.rs hG (Ch.mv rfl rfl (Ch.p1 rfl (OpS.fieldAddr rfl rfl rfl rfl) rfl (Ch.q1 rfl (OpS.loadP rfl rfl rfl) rfl rfl ?_)))))))
       refine Ch.cH (fcr) [0] 12 gdN (.cons rfl (.cons rfl .nil)) (.c (.rfl _) (.c (AV.wk.tip rfl (by exact renL_i _ _)) .n)) rfl (by refine ⟨?_, ?_, ?_, ?_⟩ <;> first | ((conv => lhs; simp only [nrmA, Nat.reduceAdd, renL_tbs, renL_tb1, renL_bks, renL_b1, renL_vs, renL_v1, ren_vt, pend_ren, ren_ss]); all_goals rfl) | rfl) (by exact ⟨rfl, trivial⟩) (by exact trivial) rfl ?_
       refine Ch.nil (WP.rs hG (Ch.mv rfl rfl (Ch.mv rfl rfl ?_)))
       refine Ch.cH (fnw) [0] 12 gdN (.cons rfl (.cons rfl (.cons rfl (.cons rfl .nil)))) (.c (.rfl _) (.c (AV.wk.sh (by simp; first | done | fail)) (.c (.rfl _) (.c (.rfl _) .n)))) rfl (by refine ⟨?_, ?_, ?_, ?_⟩ <;> first | ((conv => lhs; simp only [nrmA, Nat.reduceAdd, renL_tbs, renL_tb1, renL_bks, renL_b1, renL_vs, renL_v1, ren_vt, pend_ren, ren_ss]); all_goals rfl) | rfl) (by exact ⟨rfl, trivial⟩) (by exact ⟨rfl, rfl, rfl, rfl, rfl, rfl, rfl, rfl, rfl, trivial⟩) rfl ?_
       refine Ch.asg rfl rfl (Ch.nil (WP.rs hG (Ch.mv rfl rfl (Ch.p2 rfl rfl (OpS.eqNil (.p _ _) rfl) rfl (Ch.mv rfl rfl (Ch.gm rfl rfl rfl rfl ?_))))))
       refine Ch.cH (f0s) [0,12,13,14,15,16,17,18,19,20] 21 (gdT rfl rfl) (.cons rfl .nil) (.c (.rfl _) .n) rfl (by refine ⟨?_, ?_, ?_, ?_⟩ <;> first | ((conv => lhs; simp only [nrmA, Nat.reduceAdd, renL_tbs, renL_tb1, renL_bks, renL_b1, renL_vs, renL_v1, ren_vt, pend_ren, ren_ss]); all_goals rfl) | rfl) (by exact ⟨rfl, rfl, rfl, rfl, rfl, rfl, rfl, rfl, rfl, rfl, trivial⟩) (by exact trivial) rfl ?_
       refine Ch.g1 rfl rfl rfl (OpS.len rfl) rfl (Ch.g2 rfl rfl rfl rfl (OpS.int (op := .neq) (v' := .bool false) rfl rfl) rfl (Ch.p2 rfl rfl (OpS.pickF) rfl (Ch.nil (WP.cond_false rfl (WP.skip (WP.rg hG (Ch.mv rfl rfl (Ch.p2 rfl rfl (OpS.inc m (by omega) (by omega)) rfl ?_))))))))
       refine Ch.asg rfl rfl (Ch.nil ?_)
       refine ⟨k - 1, _, by omega, (Ent.of [0, 12, 13, 14, 15, 16, 17, 18, 19, 20, 10] ?_ ?_ ?_ ?_).se, m + 1, c5, x5, vs4, ⟨by omega, by omega, by omega, by omega, r5, b5, u5⟩, rfl⟩
       · exact na_of hnA rfl
       · (repeat (first | exact trivial | (refine And.intro ⟨(by first | trivial | (simp; first | done | fail)), _, rfl, (by first | exact .rfl _ | exact .of_eq (by simp [renL_vs, actsR_ren, renL_u]; first | done | fail))⟩ ?_)))
       · (repeat (first | exact trivial | (refine And.intro ⟨rfl, (by first | trivial | (simp; first | done | fail)), (by first | rfl | (simp [renL_tbs, renL_bks, renL_vs, pend_ren]; first | done | fail))⟩ ?_)))
       · exact nd_of rfl
      ·
       have hs := hq
       rw [hs] at fAl
       refine WP.rs hG (Ch.mv rfl rfl ?_)
       refine Ch.cH (fAl) [0,1,2,3,4,5,6,7,8,9] 12 gdN (.cons rfl .nil) (.c (.rfl _) .n) rfl (by refine ⟨?_, ?_, ?_, ?_⟩ <;> first | ((conv => lhs; simp only [nrmA, Nat.reduceAdd, renL_tbs, renL_tb1, renL_bks, renL_b1, renL_vs, renL_v1, ren_vt, pend_ren, ren_ss]); all_goals rfl) | rfl) (by exact ⟨rfl, rfl, rfl, rfl, rfl, rfl, rfl, rfl, rfl, rfl, trivial⟩) (by exact trivial) rfl ?_
       refine Ch.p1 rfl (OpS.not) rfl (Ch.mv rfl rfl (Ch.skU (gdF rfl rfl rfl) rfl (Ch.skU (gdF rfl rfl rfl) rfl (Ch.skU (gdF rfl rfl rfl) rfl (Ch.skU (gdF rfl rfl rfl) rfl (Ch.p2 rfl rfl (OpS.pickT) rfl (Ch.nil (WP.cond_true rfl (WP.rs hG ?_)))))))))
       refine Ch.mv rfl rfl (Ch.p1 rfl (OpS.fieldAddr rfl rfl rfl rfl) rfl (Ch.q1 rfl (OpS.loadP rfl rfl rfl) rfl rfl ?_))
       refine Ch.cH (fcr) [0] 12 gdN (.cons rfl (.cons rfl .nil)) (.c (.rfl _) (.c (AV.wk.tip rfl (by exact renL_i _ _)) .n)) rfl (by refine ⟨?_, ?_, ?_, ?_⟩ <;> first | ((conv => lhs; simp only [nrmA, Nat.reduceAdd, renL_tbs, renL_tb1, renL_bks, renL_b1, renL_vs, renL_v1, ren_vt, pend_ren, ren_ss]); all_goals rfl) | rfl) (by exact ⟨rfl, trivial⟩) (by exact trivial) rfl ?_
       refine Ch.nil (WP.rs hG (Ch.mv rfl rfl (Ch.mv rfl rfl ?_)))
       refine Ch.cH (fnw) [0] 12 gdN (.cons rfl (.cons rfl (.cons rfl (.cons rfl .nil)))) (.c (.rfl _) (.c (AV.wk.sh (by simp; first | done | fail)) (.c (.rfl _) (.c (.rfl _) .n)))) rfl (by refine ⟨?_, ?_, ?_, ?_⟩ <;> first | ((conv => lhs; simp only [nrmA, Nat.reduceAdd, renL_tbs, renL_tb1, renL_bks, renL_b1, renL_vs, renL_v1, ren_vt, pend_ren, ren_ss]); all_goals rfl) | rfl) (by exact ⟨rfl, trivial⟩) (by exact ⟨rfl, rfl, rfl, rfl, rfl, rfl, rfl, rfl, rfl, trivial⟩) rfl ?_
       refine Ch.asg rfl rfl (Ch.nil (WP.rs hG (Ch.mv rfl rfl (Ch.p2 rfl rfl (OpS.eqNil (.p _ _) rfl) rfl (Ch.mv rfl rfl (Ch.gm rfl rfl rfl rfl ?_))))))
       refine Ch.cH (f0s) [0,12,13,14,15,16,17,18,19,20] 21 (gdT rfl rfl) (.cons rfl .nil) (.c (.rfl _) .n) rfl (by refine ⟨?_, ?_, ?_, ?_⟩ <;> first | ((conv => lhs; simp only [nrmA, Nat.reduceAdd, renL_tbs, renL_tb1, renL_bks, renL_b1, renL_vs, renL_v1, ren_vt, pend_ren, ren_ss]); all_goals rfl) | rfl) (by exact ⟨rfl, rfl, rfl, rfl, rfl, rfl, rfl, rfl, rfl, rfl, trivial⟩) (by exact trivial) rfl ?_
       refine Ch.g1 rfl rfl rfl (OpS.len rfl) rfl (Ch.g2 rfl rfl rfl rfl (OpS.int (op := .neq) (v' := .bool false) rfl rfl) rfl (Ch.p2 rfl rfl (OpS.pickF) rfl (Ch.nil (WP.cond_false rfl (WP.skip (WP.rg hG (Ch.mv rfl rfl (Ch.p2 rfl rfl (OpS.inc m (by omega) (by omega)) rfl ?_))))))))
       refine Ch.asg rfl rfl (Ch.nil ?_)
       refine ⟨k - 1, _, by omega, (Ent.of [0, 12, 13, 14, 15, 16, 17, 18, 19, 20, 10] ?_ ?_ ?_ ?_).se, m + 1, c5, x5, vs4, ⟨by omega, by omega, by omega, by omega, r5, b5, u5⟩, rfl⟩
       · exact na_of hnA rfl
       · (repeat (first | exact trivial | (refine And.intro ⟨(by first | trivial | (simp; first | done | fail)), _, rfl, (by first | exact .rfl _ | exact .of_eq (by simp [renL_vs, actsR_ren, renL_u]; first | done | fail))⟩ ?_)))
       · (repeat (first | exact trivial | (refine And.intro ⟨rfl, (by first | trivial | (simp; first | done | fail)), (by first | rfl | (simp [renL_tbs, renL_bks, renL_vs, pend_ren]; first | done | fail))⟩ ?_)))
       · exact nd_of rfl
  ·
   have hs := hq
   refine WP.rs hG (Ch.mv rfl rfl (Ch.mv rfl rfl (Ch.p1 rfl (OpS.len rfl) rfl (Ch.p2 rfl rfl (OpS.lssT (by omega)) rfl ?_))))
   refine Ch.mv rfl rfl (Ch.gm rfl rfl rfl rfl (Ch.g2 rfl rfl rfl rfl (OpS.lssF (by omega)) rfl ?_))
   refine Ch.p2 rfl rfl (OpS.pickT) rfl (Ch.nil (WP.cond_false rfl (WP.exit (WP.rs hG (Ch.asg rfl rfl (Ch.nil ?_))))))
   exact WP.ret (Ret.one rfl (.of_eq rfl) trivial hnA)
  ·
   have hs := hq
   refine WP.rs hG (Ch.mv rfl rfl (Ch.mv rfl rfl (Ch.p1 rfl (OpS.len rfl) rfl (Ch.p2 rfl rfl (OpS.lssF (by omega)) rfl ?_))))
   refine Ch.mv rfl rfl (Ch.skU (gdF rfl rfl rfl) rfl (Ch.skU (gdF rfl rfl rfl) rfl (Ch.p2 rfl rfl (OpS.pickF) rfl (Ch.nil (WP.cond_false rfl (WP.exit (WP.rs hG (Ch.asg rfl rfl (Ch.nil ?_)))))))))
   exact WP.ret (Ret.one rfl (.of_eq rfl) trivial hnA)
end
end Go.Proofs.YtpnbpcopdckgpaaGreatDoor.E
end
section
namespace Go.Proofs.YtpnbpcopdckgpaaGreatDoor.V
open Go Go.RowKit

theorem laid_var {P : Program} {W : World} {name : String} {k : IntKind} {zs : List Int} {g : Nat} {t e : TypeId} {n : Nat}
  (hg : P.globalNamed name = some g) (hty : (P.globals[g]?).map (·.type) = some t) (ht : P.underlying t = some (.array n e)) (he : P.underlying e = some (.int k)) (hce : P.cellsOf e = 1) (hct : P.cellsOf t = n) :
  ∀ (laid : List (String × DataW Unit)) (ps : List MemPlace), DataW.LaidVars P W laid ps → (name, Lib.tabData k zs) ∈ laid →
   W.var? P name = some (zs.map fun z => Value.int k z).toArray ∧ ∀ i, i < zs.length → MemPlace.cell g i ∈ ps := by
 intro laid
 induction laid with
 | nil => intro ps _ h; cases h
 | cons x r ih =>
  intro ps hl hm
  obtain ⟨g', t', cs, fuel, p, q, hg', ht', hvar, hd, hr, rfl⟩ := hl
  rcases List.mem_cons.1 hm with rfl | hm
  ·
   obtain rfl := Option.some.inj (hg.symm.trans hg')
   obtain rfl := Option.some.inj (hty.symm.trans ht')
   have hcs := Lib.cells_of_tab ht he hce hct hd
   refine ⟨by rw [hvar, ← hcs], fun i hi => ?_⟩
   have hsz : cs.size = zs.length := by rw [← Array.length_toList, hcs, List.length_map]
   refine List.mem_append_left _ (List.mem_append_left _ ?_)
   simpa [MemPlace.row, hsz] using hi
  ·
   obtain ⟨h1, h2⟩ := ih q hr hm
   exact ⟨h1, fun i hi => List.mem_append_right _ (h2 i hi)⟩

theorem laid_tab {P : Program} {W : World} {laid : List (String × DataW Unit)} (h : laidMetH P laid W) {name : String} {k : IntKind} {zs : List Int} {g : Nat} {t e : TypeId} {n : Nat}
  (hm : (name, Lib.tabData k zs) ∈ laid) (h0 : 0 < zs.length)
  (hg : P.globalNamed name = some g) (hty : (P.globals[g]?).map (·.type) = some t) (ht : P.underlying t = some (.array n e)) (he : P.underlying e = some (.int k)) (hce : P.cellsOf e = 1) (hct : P.cellsOf t = n) :
  ∃ T, W.heap[g]? = some (.cells (zs.map fun z => Value.int k z).toArray T (0, 0)) := by
 obtain ⟨⟨ps, hv, _, hr⟩, _⟩ := laidMetH_iff.1 h
 obtain ⟨h1, h2⟩ := laid_var hg hty ht he hce hct _ ps hv (List.mem_filter.2 ⟨hm, rfl⟩)
 obtain ⟨⟨c, T, hc⟩, _⟩ := hr g 0 (h2 0 h0)
 refine ⟨T, ?_⟩
 rw [hc]
 have : W.var? P name = some c := by simp [World.var?, hg, hc]
 rw [h1] at this
 injection this with this
 rw [this]
end Go.Proofs.YtpnbpcopdckgpaaGreatDoor.V
end
