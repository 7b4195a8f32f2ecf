import Derived.Test.YtpnbpcopdckgpaaGreatDoorZdaea74da
import Derived.Test.YtpnbpcopdckgpaaGreatDoorZb36c764c
import Derived.Test.YtpnbpcopdckgpaaGreatDoorZ11f6f1f5
import Derived.ChangeArms
import Derived.ChangeOld
import Derived.OpenShut
import Derived.SizedLaws
import Derived.Test.YtpnbpcopdckgpaaGreatDoorZcd418759
section
namespace Go.Proofs.YtpnbpcopdckgpaaGreatDoor.E
open Go Go.RowKit Go.WideShapes Go.ChangeShapes Go.ChangeAt Go.Proofs.YtpnbpcopdckgpaaGreatDoor.V
def tabS : List (Nat × Array Value) := [(1, kArr), (0, first.cells)]
def SB (w : World) : Prop := ∀ x ∈ tabS, ∃ T, w.heap[x.1]? = some (.cells x.2 T (0, 0))
inductive Args (w : World) : List AV → List Value → Prop
 | nil : Args w [] []
 | cons {c : AV} {x : Value} {cs : List AV} {xs : List Value} (h : VRel (allN w) noE w c x) (r : Args w cs xs) : Args w (c :: cs) (x :: xs)
theorem Args.get {w : World} : ∀ {cs : List AV} {xs : List Value}, Args w cs xs → cs.length = xs.length ∧ ∀ (i : Nat) (c : AV) (x : Value), cs[i]? = some c → xs[i]? = some x → VRel (allN w) noE w c x
 | _, _, .nil => ⟨rfl, fun i c x hc => by simp at hc⟩
 | _, _, .cons h r => by
  obtain ⟨k1, k2⟩ := r.get
  refine ⟨by simp [k1], fun i c x hc hx => ?_⟩
  cases i with
  | zero => cases hc; cases hx; exact h
  | succ i => exact k2 i c x hc hx
theorem FC.callsA {P : Program} {G : List (Nat × Array Value)} {f : FuncId} {args : List AV} {r : Value} (F : FC P G f args [] (.v r) []) {w : World} (hT : ∀ x ∈ G, ∃ T, w.heap[x.1]? = some (.cells x.2 T (0, 0))) {xs : List Value} (h : Args w args xs) :
  Calls P f xs.toArray w fun e w' => e = .returned r ∧ Fr [] w w' :=
 F.calls w hT xs.toArray (by simp [h.get.1]) fun i c x hc hx => h.get.2 i c x hc (by simpa using hx)
theorem Strs.len {w : World} {v : Value} {ps : List (List UInt8)} (h : Strs w v ps) : (ps.length : Int) ≤ 9223372036854775807 := by
 obtain ⟨a, cap, _, h1, h2, _⟩ := h
 unfold maxLen at h2
 omega
end Go.Proofs.YtpnbpcopdckgpaaGreatDoor.E
end
section
namespace Go.Proofs.YtpnbpcopdckgpaaGreatDoor.E
open Go Go.RowKit Go.ChangeShapes Go.WideShapes Go.Proofs.YtpnbpcopdckgpaaGreatDoor.V
inductive Sh where
 | int (t : TypeId) (k : IntKind)
 | str (t : TypeId)
 | bool (t : TypeId)
 | sl (t : TypeId) (e : Sh)
 | st (t : TypeId) (fs : List Sh)
def Sh.t : Sh → TypeId
 | .int t _ => t
 | .str t => t
 | .bool t => t
 | .sl t _ => t
 | .st t _ => t
mutual
def Sh.size : Sh → Nat
 | .st _ fs => Sh.sizes fs
 | _ => 1
def Sh.sizes : List Sh → Nat
 | [] => 0
 | x :: r => x.size + Sh.sizes r
end
mutual
inductive Ok' (P : Program) : Sh → Prop
 | int {t k} (h : P.underlying t = some (.int k)) : Ok' P (.int t k)
 | str {t} (h : P.underlying t = some .string) : Ok' P (.str t)
 | bool {t} (h : P.underlying t = some .bool) : Ok' P (.bool t)
 | sl {t e} (h : P.underlying t = some (.slice e.t)) (hc : P.cellsOf e.t = e.size) (h0 : 0 < e.size) (he : Ok' P e) : Ok' P (.sl t e)
 | st {t fs fl} (h : P.underlying t = some (.struct fl)) (hf : FOk P 0 fl.toList fs) (hc : P.cellsOf t = Sh.sizes fs) : Ok' P (.st t fs)
inductive FOk (P : Program) : Nat → List Field → List Sh → Prop
 | nil {o} : FOk P o [] []
 | cons {o f s fl ss} (ho : f.offset = o) (ht : f.type = s.t) (hc : P.cellsOf s.t = s.size) (hs : Ok' P s) (hr : FOk P (o + s.size) fl ss) : FOk P o (f :: fl) (s :: ss)
end
mutual
inductive IsSh : Sh → List AV → Prop
 | int {t k n} (h : (Lit.int k n).wf = true) : IsSh (.int t k) [.v (.int k n)]
 | str {t} (l : List UInt8) (h : l.length ≤ reachBytes) : IsSh (.str t) [.v (.string (B l))]
 | bool {t} (b : Bool) : IsSh (.bool t) [.v (.bool b)]
 | sl {t e} (parts : List (List AV)) (h : ∀ p ∈ parts, IsSh e p) (hn : parts.length ≤ maxLen) : IsSh (.sl t e) [.sl none parts.length parts.flatten]
 | st {t fs cs} (h : IsShs fs cs) : IsSh (.st t fs) cs
inductive IsShs : List Sh → List AV → Prop
 | nil : IsShs [] []
 | cons {s ss c cs} (h : IsSh s c) (r : IsShs ss cs) : IsShs (s :: ss) (c ++ cs)
end
theorem flat_get {α : Type} (sz : Nat) (h0 : 0 < sz) : ∀ (ls : List (List α)), (∀ l ∈ ls, l.length = sz) → ls.flatten.length = ls.length * sz ∧ ∀ k : Nat, ls.flatten[k]? = (ls[k / sz]?).bind fun l => l[k % sz]?
 | [], _ => ⟨by simp, fun k => by simp⟩
 | l :: ls, h => by
  have hl := h l (by simp)
  obtain ⟨i1, i2⟩ := flat_get sz h0 ls (fun x hx => h x (by simp [hx]))
  refine ⟨by rw [List.flatten_cons, List.length_append, hl, i1, List.length_cons, Nat.add_mul]; omega, fun k => ?_⟩
  rw [List.flatten_cons]
  rcases Nat.lt_or_ge k sz with hk | hk
  ·
   rw [List.getElem?_append_left (by omega), Nat.div_eq_of_lt hk, Nat.mod_eq_of_lt hk]
   rfl
  ·
   rw [List.getElem?_append_right (by omega), hl, i2]
   have e1 : k / sz = (k - sz) / sz + 1 := by
    rw [show k = (k - sz) + sz by omega, Nat.add_div_right _ h0, Nat.add_sub_cancel]
   have e2 : k % sz = (k - sz) % sz := by
    conv => lhs; rw [show k = (k - sz) + sz by omega, Nat.add_mod_right]
   rw [e1, e2, List.getElem?_cons_succ]
section
variable {H : Type} {enc : TypeId × Value → H} {P : Program} {w : World} {spare : Nat → Bool} {held : Bool}
theorem cells_get {a : Addr} {n : Nat} {cs : List Value} (h : w.cells? 0 a n = some cs) : cs.length = n ∧ ∀ i, i < n → w.cell? (a.add i) = cs[i]? := by
 obtain ⟨_, h1, h2⟩ := World.cells?_some h
 exact ⟨h1, h2⟩
theorem spotless {b off : Nat} {sp : Option _} {v : Value} (h : w.cell? ((⟨b, off, sp⟩ : Addr).add 0) = some v) : sp = none ∧ b < w.heap.size := by
 cases sp with
 | none =>
  refine ⟨rfl, ?_⟩
  have : ((⟨b, off, none⟩ : Addr).add 0) = ⟨b, off, none⟩ := rfl
  rw [this] at h
  unfold World.cell? at h
  split at h
  ·
   rename_i he
   exact (Array.getElem?_eq_some_iff.1 he).1
  · simp at h
 | some x =>
  rw [show ((⟨b, off, some x⟩ : Addr).add 0) = ⟨b, off, some x⟩ from rfl] at h
  unfold World.cell? at h
  split at h <;> simp at h
theorem add_add (b off i : Nat) : ((⟨b, off, none⟩ : Addr).add i) = ⟨b, off + i, none⟩ := by unfold Addr.add; split <;> simp_all
theorem weightsAll_mem {P : Program} {e : TypeId} {d : DataW H} {n : Nat} : ∀ {ds : List (DataW H)}, d ∈ ds → n ∈ d.weights P e → n ∈ DataW.weightsAll P e ds
 | d' :: ds, h, hn => by
  unfold DataW.weightsAll
  rcases List.mem_cons.1 h with rfl | h
  · exact List.mem_append.2 (.inl hn)
  · exact List.mem_append.2 (.inr (weightsAll_mem h hn))
theorem read_sh : ∀ (fuel : Nat) (sh : Sh) (cs : List Value) (x : DataW H × List MemPlace), Ok' P sh → DataW.trod enc P w 0 spare held fuel sh.t cs = some x → (∀ n ∈ x.1.weights P sh.t, n ≤ reachBytes) →
  ∃ av, IsSh sh av ∧ av.length = sh.size ∧ cs.length = sh.size ∧ ∀ (i : Nat) (c : AV) (v : Value), av[i]? = some c → cs[i]? = some v → VRel (allN w) noE w c v ∧ v.oneCell' = true := by
 intro fuel
 induction fuel with
 | zero => intro sh cs x _ h _; simp [DataW.trod] at h
 | succ n ih =>
  have one : ∀ (c : AV) (v : Value), VRel (allN w) noE w c v → v.oneCell' = true → ∀ (i : Nat) (c' : AV) (v' : Value), [c][i]? = some c' → [v][i]? = some v' → VRel (allN w) noE w c' v' ∧ v'.oneCell' = true := by
   intro c v h1 h2 i c' v' hc hv
   match i with
   | 0 => cases hc; cases hv; exact ⟨h1, h2⟩
   | i + 1 => simp at hc
  intro sh cs x hok h hwt
  cases hok with
  | int hu =>
   obtain ⟨z, rfl, rfl, hw⟩ := DataW.trod_int hu h
   exact ⟨_, .int hw, rfl, rfl, one _ _ (.v _) rfl⟩
  | str hu =>
   obtain ⟨s, rfl, rfl, hw⟩ := DataW.trod_string hu h
   obtain ⟨l, rfl⟩ := exists_B s
   exact ⟨_, .str l (by have := hwt _ (List.mem_singleton.2 rfl); rw [B_data] at this; exact this), rfl, rfl, one _ _ (.v _) rfl⟩
  | bool hu =>
   obtain ⟨b, rfl, rfl⟩ := DataW.trod_bool hu h
   exact ⟨_, .bool b, rfl, rfl, one _ _ (.v _) rfl⟩
  | @sl t e hu hc h0 he =>
   rcases DataW.trod_slice hu h with ⟨rfl, rfl⟩ | ⟨a, len, cap, elems, rest, m, hfu, rfl, rfl, _, hl, hm, hlen, hel, _, _⟩
   · exact ⟨_, .sl [] (fun p hp => by cases hp) (Nat.zero_le _), rfl, rfl, one _ _ (.sl none 0 [] none 0 (fun _ => undef) (fun i hi => by cases hi) (fun i c hc => by simp at hc) (fun k hk => by cases hk) (Nat.le_refl _) (fun _ => rfl) (Nat.zero_le _)) rfl⟩
   ·
    obtain rfl : n = m := by omega
    have hwe : ∀ (i : Nat) (y : DataW H × List MemPlace), elems[i]? = some y → ∀ n ∈ y.1.weights P e.t, n ≤ reachBytes := fun i y hy n hn => hwt n (by
     rw [DataW.weights, show P.underlying (Sh.sl t e).t = some (.slice e.t) from hu]
     exact List.mem_cons_of_mem _ (List.mem_append.2 (.inl (weightsAll_mem (List.mem_map.2 ⟨y, List.mem_of_getElem? hy, rfl⟩) hn))))
    have hex : ∀ i, ∃ p : List AV, i < len → IsSh e p ∧ p.length = e.size ∧ ∃ vs, w.cells? 0 (a.add (i * e.size)) e.size = some vs ∧ ∀ (j : Nat) (c : AV) (v : Value), p[j]? = some c → vs[j]? = some v → VRel (allN w) noE w c v ∧ v.oneCell' = true := by
     intro i
     by_cases hi : i < len
     ·
      have hb := hel i hi
      rw [hc, List.getElem?_eq_getElem (by omega), Option.bind_eq_some_iff] at hb
      obtain ⟨vs, hvs, hy⟩ := hb
      obtain ⟨av, k1, k2, k3, k4⟩ := ih e vs _ he hy (hwe i _ (List.getElem?_eq_getElem (by omega)))
      exact ⟨av, fun _ => ⟨k1, k2, vs, hvs, k4⟩⟩
     · exact ⟨[], fun hi' => absurd hi' hi⟩
    obtain ⟨f, hf⟩ : ∃ f : Nat → List AV, ∀ i, i < len → IsSh e (f i) ∧ (f i).length = e.size ∧ ∃ vs, w.cells? 0 (a.add (i * e.size)) e.size = some vs ∧ ∀ (j : Nat) (c : AV) (v : Value), (f i)[j]? = some c → vs[j]? = some v → VRel (allN w) noE w c v ∧ v.oneCell' = true :=
     ⟨fun i => Classical.choose (hex i), fun i => Classical.choose_spec (hex i)⟩
    have hpl : ((List.range len).map f).length = len := by simp
    have hpm : ∀ p ∈ (List.range len).map f, IsSh e p ∧ p.length = e.size := fun p hp => by
     obtain ⟨i, hi, rfl⟩ := List.mem_map.1 hp
     have := hf i (List.mem_range.1 hi)
     exact ⟨this.1, this.2.1⟩
    obtain ⟨g1, g2⟩ := flat_get e.size h0 ((List.range len).map f) (fun p hp => (hpm p hp).2)
    rw [hpl] at g1
    have his : IsSh (.sl t e) [.sl none len ((List.range len).map f).flatten] := by
     have := IsSh.sl (t := t) ((List.range len).map f) (fun p hp => (hpm p hp).1) (by rw [hpl]; omega)
     rw [hpl] at this
     exact this
    refine ⟨_, his, rfl, rfl, one _ _ ?_ rfl⟩
    obtain ⟨b, off, sp⟩ := a
    have hcell : ∀ k, k < len * e.size → sp = none ∧ b < w.heap.size ∧ ∃ c v, ((List.range len).map f).flatten[k]? = some c ∧ w.cell? ⟨b, off + k, none⟩ = some v ∧ VRel (allN w) noE w c v ∧ v.oneCell' = true := by
     intro k hk
     have hlp : 0 < len := by
      rcases Nat.eq_zero_or_pos len with h | h
      · subst h; omega
      · exact h
     have hi : k / e.size < len := (Nat.div_lt_iff_lt_mul h0).2 hk
     have hj : k % e.size < e.size := Nat.mod_lt _ h0
     obtain ⟨-, -, vs0, hv0, -⟩ := hf 0 hlp
     rw [Nat.zero_mul] at hv0
     obtain ⟨l0, c0⟩ := cells_get hv0
     have z0 := c0 0 h0
     rw [List.getElem?_eq_getElem (by omega), show ((⟨b, off, sp⟩ : Addr).add 0).add 0 = (⟨b, off, sp⟩ : Addr).add 0 by cases sp <;> rfl] at z0
     obtain ⟨rfl, hblk⟩ := spotless z0
     obtain ⟨hs1, hs2, vs, hvs, hrel⟩ := hf _ hi
     obtain ⟨l1, c1⟩ := cells_get hvs
     have z1 := c1 _ hj
     rw [add_add, add_add, List.getElem?_eq_getElem (by omega), show off + k / e.size * e.size + k % e.size = off + k by have := Nat.div_add_mod k e.size; rw [Nat.mul_comm] at this; omega] at z1
     have hfl := g2 k
     rw [List.getElem?_map, List.getElem?_range hi] at hfl
     simp only [Option.map_some, Option.bind_some] at hfl
     rw [List.getElem?_eq_getElem (show k % e.size < (f (k / e.size)).length by omega)] at hfl
     refine ⟨rfl, hblk, _, _, hfl, z1, ?_⟩
     exact hrel (k % e.size) _ _ (List.getElem?_eq_getElem _) (List.getElem?_eq_getElem _)
    refine .sl none len _ _ cap (fun k => (w.cell? ⟨b, off + k, none⟩).getD undef) (fun k hk => ?_) (fun k c hk => ?_) (fun k hk => by cases hk) hl (fun h => by cases h) hm
    ·
     rw [g1] at hk
     obtain ⟨rfl, hb, c, v, h1, h2, h3, h4⟩ := hcell k hk
     refine ⟨by rw [h2]; exact h4, b, off, rfl, by rw [h2]; rfl, hb⟩
    ·
     have hk' := (List.getElem?_eq_some_iff.1 hk).1
     rw [g1] at hk'
     obtain ⟨-, hb, c', v, h1, h2, h3, h4⟩ := hcell k hk'
     rw [h1] at hk
     cases hk
     rw [h2]
     exact h3
  | @st t fs fl hu hf hc =>
   obtain ⟨xs, m, hfu, rfl, hcl, hxl, hx⟩ := DataW.trod_struct hu h
   obtain rfl : n = m := by omega
   have key : ∀ (fl' : List Field) (ss : List Sh) (o : Nat), FOk P o fl' ss → (∀ f ∈ fl', ∃ y, DataW.trod enc P w 0 spare held n f.type ((cs.drop f.offset).take (P.cellsOf f.type)) = some y ∧ ∀ n ∈ y.1.weights P f.type, n ≤ reachBytes) →
     ∃ av, IsShs ss av ∧ av.length = Sh.sizes ss ∧ ∀ (i : Nat) (c : AV) (v : Value), av[i]? = some c → cs[o + i]? = some v → VRel (allN w) noE w c v ∧ v.oneCell' = true := by
    intro fl'
    induction fl' with
    | nil => intro ss o ho _; cases ho; exact ⟨[], .nil, rfl, fun i c v hc => by simp at hc⟩
    | cons f fl' ih2 =>
     intro ss o ho hy
     cases ho with
     | @cons _ _ s _ ss ho ht hcs hs hr =>
      subst ho
      obtain ⟨y, hy1, hy2⟩ := hy f (by simp)
      rw [ht] at hy2
      rw [ht, hcs] at hy1
      obtain ⟨a1, k1, k2, k3, k4⟩ := ih s _ _ hs hy1 hy2
      obtain ⟨a2, j1, j2, j3⟩ := ih2 ss _ hr (fun g hg => hy g (by simp [hg]))
      refine ⟨a1 ++ a2, .cons k1 j1, by rw [List.length_append, k2, j2]; rfl, fun i c v hc hv => ?_⟩
      rcases Nat.lt_or_ge i s.size with hi | hi
      ·
       rw [List.getElem?_append_left (by omega)] at hc
       refine k4 i c v hc ?_
       rw [List.getElem?_take_of_lt hi, List.getElem?_drop]
       exact hv
      ·
       rw [List.getElem?_append_right (by omega), k2] at hc
       refine j3 (i - s.size) c v hc ?_
       rw [show f.offset + s.size + (i - s.size) = f.offset + i by omega]
       exact hv
   obtain ⟨av, k1, k2, k3⟩ := key fl.toList fs 0 hf (fun f hf' => by
    obtain ⟨i, hi⟩ := List.mem_iff_getElem?.1 hf'
    have hi' : fl[i]? = some f := by simpa using hi
    have hlt : i < xs.length := by rw [hxl]; exact (Array.getElem?_eq_some_iff.1 hi').1
    exact ⟨_, (hx i f hi').trans (List.getElem?_eq_getElem hlt), fun n hn => hwt n (by
     rw [DataW.weights, show P.underlying (Sh.st t fs).t = some (.struct fl) from hu]
     exact DataW.weights_mem_each (j := i) (t := f.type) (d := (xs[i]).1) (by rw [List.getElem?_map, hi]; rfl) (by rw [List.getElem?_map, List.getElem?_eq_getElem hlt]; rfl) n hn)⟩)
   exact ⟨av, .st k1, k2, hcl.trans hc, fun i c v hc hv => k3 i c v hc (by rw [Nat.zero_add]; exact hv)⟩
end
theorem list_of {α : Type} (f : α → List AV) (Q : α → Prop) : ∀ (parts : List (List AV)), (∀ p ∈ parts, ∃ x, Q x ∧ p = f x) → ∃ xs : List α, (∀ x ∈ xs, Q x) ∧ parts = xs.map f
 | [], _ => ⟨[], (fun x hx => by cases hx), rfl⟩
 | p :: parts, h => by
  obtain ⟨x, hx, rfl⟩ := h p (by simp)
  obtain ⟨xs, hxs, rfl⟩ := list_of f Q parts (fun q hq => h q (by simp [hq]))
  exact ⟨x :: xs, fun y hy => (List.mem_cons.1 hy).elim (fun e => e ▸ hx) (hxs y), rfl⟩
theorem flat_one {α : Type} (g : α → AV) : ∀ xs : List α, (xs.map fun x => [g x]).flatten = xs.map g
 | [] => rfl
 | x :: xs => by rw [List.map_cons, List.flatten_cons, flat_one g xs]; rfl
theorem weigh {H : Type} {P : Program} {ts : List TypeId} {ds : List (DataW H)} (h : (DataW.weightsEach P ts ds).all (· ≤ reachBytes) = true) {j : Nat} {t : TypeId} {d : DataW H} (ht : ts[j]? = some t) (hd : ds[j]? = some d) : ∀ n ∈ d.weights P t, n ≤ reachBytes := fun n hn => by
 have := List.all_eq_true.1 h _ (DataW.weights_mem_each ht hd n hn)
 simpa using this
theorem read_one {H : Type} {enc : TypeId × Value → H} {P : Program} {w : World} {spare : Nat → Bool} {held : Bool} {sh : Sh} (hok : Ok' P sh) (h1 : sh.size = 1) {v : Value} (hv : v.cells.toList = [v]) {d : DataW H} {ps : List MemPlace}
  (hwt : ∀ n ∈ d.weights P sh.t, n ≤ reachBytes) (h : DataW.Trod enc P w 0 spare held sh.t v d ps) : ∃ c, IsSh sh [c] ∧ VRel (allN w) noE w c v := by
 obtain ⟨fuel, hf⟩ := h
 rw [hv] at hf
 obtain ⟨av, k1, k2, k3, k4⟩ := read_sh fuel sh _ _ hok hf hwt
 rw [h1] at k2
 obtain ⟨c, rfl⟩ := List.length_eq_one_iff.1 k2
 exact ⟨c, k1, (k4 0 c v rfl rfl).1⟩
theorem IsSh.strs {t t' : TypeId} {c : AV} (h : IsSh (.sl t (.str t')) [c]) : ∃ ss : List (List UInt8), c = .sl none ss.length (ss.map sA) ∧ (∀ s ∈ ss, s.length ≤ reachBytes) ∧ ss.length ≤ maxLen := by
 generalize hl : [c] = cs at h
 cases h with
 | sl parts hp hn =>
  cases hl
  obtain ⟨xs, hq, rfl⟩ := list_of (fun l : List UInt8 => [sA l]) (fun l => l.length ≤ reachBytes) parts (fun p hm => by
   cases hp p hm with
   | str l h => exact ⟨l, h, rfl⟩)
  refine ⟨xs, ?_, hq, by simpa using hn⟩
  rw [List.length_map, flat_one]
theorem IsSh.ints {t t' : TypeId} {c : AV} (h : IsSh (.sl t (.int t' .i64)) [c]) : ∃ ns : List Int, c = .sl none ns.length (ns.map iA) ∧ (∀ n ∈ ns, -9223372036854775808 ≤ n ∧ n ≤ 9223372036854775807) ∧ ns.length ≤ maxLen := by
 generalize hl : [c] = cs at h
 cases h with
 | sl parts hp hn =>
  cases hl
  obtain ⟨xs, hq, rfl⟩ := list_of (fun n : Int => [iA n]) (fun n => -9223372036854775808 ≤ n ∧ n ≤ 9223372036854775807) parts (fun p hm => by
   cases hp p hm with
   | int h => exact ⟨_, by simpa [Lit.wf, IntKind.min, IntKind.max, IntKind.signed, IntKind.bits] using h, rfl⟩)
  refine ⟨xs, ?_, hq, by simpa using hn⟩
  rw [List.length_map, flat_one]
theorem IsSh.one {sh : Sh} {cs : List AV} (h : IsSh sh cs) (h1 : ∀ t fs, sh ≠ .st t fs) : ∃ c, cs = [c] := by
 cases h with
 | st => exact absurd rfl (h1 _ _)
 | _ => exact ⟨_, rfl⟩
theorem IsSh.strsL {t t' : TypeId} {cs : List AV} (h : IsSh (.sl t (.str t')) cs) : ∃ ss : List (List UInt8), cs = [.sl none ss.length (ss.map sA)] ∧ (∀ s ∈ ss, s.length ≤ reachBytes) ∧ ss.length ≤ maxLen := by
 obtain ⟨c, rfl⟩ := h.one (fun _ _ h => by cases h)
 obtain ⟨ns, rfl, h2⟩ := h.strs
 exact ⟨ns, rfl, h2⟩
end Go.Proofs.YtpnbpcopdckgpaaGreatDoor.E
end
section
namespace Go.Proofs.YtpnbpcopdckgpaaGreatDoor.E
open Go Go.RowKit Go.ChangeShapes Go.WideShapes Go.Proofs.YtpnbpcopdckgpaaGreatDoor.V
set_option maxRecDepth 4000
structure ActR where
 what : Int
 who : Int
 which : Int
 text : Txt
 n : Nt
 how : List Int
instance : Inhabited ActR := ⟨⟨0, 0, 0, [], nt0, []⟩⟩
abbrev acR (a : ActR) : List AV := [.v (.int .i64 a.what), .v (.int .i64 a.who), .v (.int .i64 a.which), sA a.text, .v (.int .i64 a.n.kind), .v (.int .i64 a.n.fr), .v (.int .i64 a.n.rcp), .v (.int .u64 (U64 a.n.view)), sA a.n.id, sA a.n.pa, sA a.n.pl, sA a.n.sig, ssA a.n.sigs, .sl none a.how.length (a.how.map iA)]
structure ActROk (a : ActR) : Prop where
 what : -9223372036854775808 ≤ a.what ∧ a.what ≤ 9223372036854775807
 who : -9223372036854775808 ≤ a.who ∧ a.who ≤ 9223372036854775807
 which : -9223372036854775808 ≤ a.which ∧ a.which ≤ 9223372036854775807
 text : a.text.length ≤ 9223372036854775807
 how : a.how.length ≤ 9223372036854775807
theorem acR_bel (u : Nat → Bool) (a : ActR) : AV.belL u (acR a) := ⟨trivial, trivial, trivial, trivial, trivial, trivial, trivial, trivial, trivial, trivial, trivial, trivial, bel_ss _ _, ⟨(fun k hk => by cases hk), belL_i _ _⟩, trivial⟩
theorem acR_ren (π : Nat → Nat) (a : ActR) : AV.renL π (acR a) = acR a := by
 show [_, _, _, _, _, _, _, _, _, _, _, _, AV.ren π (ssA a.n.sigs), AV.sl none _ (AV.renL π _)] = _
 rw [ren_ss, renL_i]
 rfl
def actsR (xs : List ActR) : List AV := xs.flatMap acR
@[simp] theorem actsR_ren (π : Nat → Nat) : ∀ xs : List ActR, AV.renL π (actsR xs) = actsR xs
 | [] => rfl
 | a :: l => by
  have h := actsR_ren π l
  unfold actsR at h ⊢
  rw [List.flatMap_cons, renL_append, h, acR_ren]
@[simp] theorem actsR_bel (u : Nat → Bool) : ∀ xs : List ActR, AV.belL u (actsR xs)
 | [] => trivial
 | a :: l => by
  unfold actsR
  rw [List.flatMap_cons]
  exact belL_app u _ _ (acR_bel u a) (actsR_bel u l)
theorem read_st {H : Type} {enc : TypeId × Value → H} {P : Program} {w : World} {spare : Nat → Bool} {held : Bool} {sh : Sh} (hok : Ok' P sh) {cs : Array Value} {d : DataW H} {ps : List MemPlace}
  (hwt : ∀ n ∈ d.weights P sh.t, n ≤ reachBytes) (h : DataW.Trod enc P w 0 spare held sh.t (.agg cs) d ps) : ∃ c, IsSh sh c ∧ VRel (allN w) noE w (.agg c) (.agg cs) := by
 obtain ⟨fuel, hf⟩ := h
 obtain ⟨av, k1, k2, k3, k4⟩ := read_sh fuel sh _ _ hok hf hwt
 have k3' : cs.toList.length = sh.size := k3
 refine ⟨av, k1, .agg av cs ?_ ?_⟩
 · rw [k2, ← k3', Array.length_toList]
 ·
  intro i c x hc hx
  refine (k4 i c x hc ?_).1
  show cs.toList[i]? = some x
  rw [Array.getElem?_toList]
  exact hx
theorem u64_of {n : Int} (h : (Lit.int .u64 n).wf = true) : ∃ v : UInt64, n = U64 v := by
 have z : 0 ≤ n ∧ n ≤ 18446744073709551615 := by simpa [Lit.wf, IntKind.min, IntKind.max, IntKind.signed, IntKind.bits] using h
 exact ⟨UInt64.ofNat n.toNat, by rw [u64_ofNat]; omega⟩
theorem isNote {ta t1 t2 t3 t4 t5 t6 t7 t8 t9 t10 : TypeId} {cs : List AV} (h : IsSh (.st ta [.int t1 .i64, .int t2 .i64, .int t3 .i64, .int t4 .u64, .str t5, .str t6, .str t7, .str t8, .sl t9 (.str t10)]) cs) : ∃ n : Nt, cs = ntA n := by
 cases h with
 | st h =>
  cases h with
  | cons h1 r => cases r with
  | cons h2 r => cases r with
  | cons h3 r => cases r with
  | cons h4 r => cases r with
  | cons h5 r => cases r with
  | cons h6 r => cases r with
  | cons h7 r => cases r with
  | cons h8 r => cases r with
  | cons h9 r =>
   cases r
   obtain ⟨ss, rfl, -, -⟩ := h9.strsL
   cases h1; cases h2; cases h3
   cases h4 with
   | int w4 =>
    obtain ⟨v, rfl⟩ := u64_of w4
    cases h5; cases h6; cases h7; cases h8
    exact ⟨⟨_, _, _, v, _, _, _, _, some ss⟩, rfl⟩
end Go.Proofs.YtpnbpcopdckgpaaGreatDoor.E
end
