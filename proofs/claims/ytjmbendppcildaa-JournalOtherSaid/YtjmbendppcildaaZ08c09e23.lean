import Derived.Test.YtjmbendppcildaaZ69ce4c42
import Derived.Laws.Small
import Derived.Laws.Slices
import Derived.Test.YtjmbendppcildaaProg
import Derived.Test.YtjmbendppcildaaZ30241bae
section
/- From concrete promises to abstract ones, and back. -/
namespace Go.Proofs.Ytjmbendppcildaa.E
open Go Go.RowKit Go.Proofs.Ytjmbendppcildaa.V

theorem HSat.fr {A : Amb} {h : Nat → Option AO} {u : Nat → Bool} {ρ : Env} {w w' : World} (H : HSat A ρ h u w) (hf : Fr [] w w') : HSat A ρ h u w' ∧ (∀ av x, VRel (Nh A h ρ w) ρ w av x → VRel (Nh A h ρ w') ρ w' av x) ∧ ∀ b o, w.heap.size ≤ b → b < w'.heap.size → Nh A h ρ w' b o :=
  H.grow hf.os hf.tape hf.output hf.size (fun k hk => hf.block k hk (by simp))

/-- a function that only computes: its concrete promise gives the abstract one -/
theorem FC.of_calls {P : Program} {G : List (Nat × Array Value)} {f : FuncId} {fn : Func} {c : Code} {args : List AV} {r : Value} (hf : P.funcs[f]? = some fn) (hname : (fn.name == "runtime.NumGoroutine") = false) (hb : fn.body = some c) (belA : AV.belL (blt 0) args)
    (h : ∀ (A : Amb) (vs : Array Value), A.G = G → HSat A A.ρ (hl []) (blt 0) A.w → vs.size = args.length → (∀ (i : Nat) (c : AV) (x : Value), args[i]? = some c → vs[i]? = some x → VRel (Nh A (hl []) A.ρ A.w) A.ρ A.w c x) →
      Calls P f vs A.w fun e w' => e = .returned r ∧ Fr [] A.w w') : FC P G f args [] (.v r) [] := by
  refine ⟨⟨fn, c, hf, hname, hb⟩, belA, trivial, Nat.le_refl _, ?_⟩
  intro A vs hG hnA HS hAB hsz hargs
  refine (h A vs hG HS hsz hargs).mono ?_
  rintro e w' ⟨rfl, hfr⟩
  exact ⟨r, A.ρ, rfl, (HS.fr hfr).1, .v r⟩
theorem tab_of {A : Amb} {h : Nat → Option AO} {u : Nat → Bool} {ρ : Env} {w : World} (H : HSat A ρ h u w) {G : List (Nat × Array Value)} (hG : A.G = G) {g : Nat} {arr : Array Value} (hm : (g, arr) ∈ G) : ∃ T, w.heap[g]? = some (.cells arr T (0, 0)) := by
  obtain ⟨⟨T, h1⟩, h2⟩ := H.tabs _ (by rw [hG]; exact hm)
  exact ⟨T, (H.block g (Array.getElem?_eq_some_iff.1 h1).1 h2).trans h1⟩

def allN (w : World) : Nat → Nat → Prop := fun b _ => b < w.heap.size
def noE : Env := ⟨fun _ => none, fun _ => none⟩
/-- and back -/
theorem FC.calls {P : Program} {G : List (Nat × Array Value)} {f : FuncId} {args : List AV} {r : Value} (F : FC P G f args [] (.v r) []) (w : World) (hT : ∀ x ∈ G, ∃ T, w.heap[x.1]? = some (.cells x.2 T (0, 0))) (vs : Array Value) (hsz : vs.size = args.length)
    (hargs : ∀ (i : Nat) (c : AV) (x : Value), args[i]? = some c → vs[i]? = some x → VRel (allN w) noE w c x) : Calls P f vs w fun e w' => e = .returned r ∧ Fr [] w w' := by
  let A : Amb := ⟨w, allN w, fun _ _ => False, fun _ => False, 0, G, noE⟩
  have hno : ∀ i ob, hl [] i = some ob → False := fun i ob h => by have := (hl_some h).1; simp at this
  have HS : HSat A noE (hl []) (blt 0) w :=
    ⟨rfl, rfl, rfl, Nat.le_refl _, fun _ _ _ => rfl, fun _ _ _ => rfl, fun _ _ h => h, fun _ _ _ h => h, fun _ _ h => h, fun x hx => ⟨hT x hx, fun h => h⟩, (fun _ _ h => by cases h), (fun _ _ h => by cases h), (fun i hi => by cases hi), (fun _ _ h => by cases h), (fun _ _ h => by cases h),
      fun i ob h => (hno i ob h).elim, fun i ob _ _ h => (hno i ob h).elim, fun i ob _ h => (hno i ob h).elim, fun i j oi oj b h => (hno i oi h).elim⟩
  refine (F.call A vs rfl rfl HS (fun _ h => h.elim) hsz (fun i c x hc hx => (hargs i c x hc hx).mono (fun b o hb => ⟨hb, .inl hb, fun i ob h => (hno i ob h).elim⟩) (Env.le_refl _) (fun _ _ _ => rfl))).mono ?_
  rintro e w' ⟨v, ρ', rfl, HS', hv⟩
  refine ⟨by rw [hv.raw], ⟨HS'.os, HS'.tape, HS'.output, HS'.size, fun k hk _ => HS'.block k hk (fun h => h)⟩⟩
end Go.Proofs.Ytjmbendppcildaa.E
end
section
/- Other ways to say what a function promises; a call that yields a new entry. -/
namespace Go.Proofs.Ytjmbendppcildaa.E
open Go Go.RowKit Go.Proofs.Ytjmbendppcildaa.V

theorem FC.conv {P : Program} {G : List (Nat × Array Value)} {f : FuncId} {args : List AV} {H H' H'' : List (Option AO)} {res res' : AV} (F : FC P G f args H res H') (hlen : H.length ≤ H''.length)
    (h : ∀ A : Amb, A.nA = H.length → A.G = G → (∀ b, A.B b → ∃ i ob, hl H i = some ob ∧ ob.at_ A.ρ i b) → SEnt A ⟨1, ls [(0, res)], hl H', blt H'.length⟩ ⟨1, ls [(0, res')], hl H'', blt H''.length⟩) : FC P G f args H res' H'' := by
  refine ⟨F.enter, F.belA, F.belH, hlen, ?_⟩
  intro A vs hG hnA HS hAB hsz hargs
  refine (F.call A vs hG hnA HS hAB hsz hargs).mono ?_
  rintro e w' ⟨v, ρ', rfl, HS', hv⟩
  have hst : Sat A ρ' ⟨1, ls [(0, res)], hl H', blt H'.length⟩ ⟨#[v], []⟩ w' := by
    refine ⟨HS', ?_, rfl, rfl⟩
    intro t x hx
    have := ls_some hx
    simp at this
    obtain ⟨rfl, rfl⟩ := this
    exact ⟨v, rfl, hv⟩
  obtain ⟨ρ'', hs'⟩ := h A hnA hG hAB _ _ _ hst
  obtain ⟨x, hx, hv'⟩ := hs'.slots 0 res' rfl
  cases hx
  exact ⟨v, ρ'', rfl, hs'.mem, hv'⟩
theorem hl_one (x : AO) : hl [some x] = lh [(0, x)] := by
  funext i
  cases i with
  | zero => rfl
  | succ i => rfl
theorem FC.thaw {P : Program} {G : List (Nat × Array Value)} {f : FuncId} {args : List AV} {n sz : Nat} {E : TypeId} {cs : List AV} (F : FC P G f args [] (.sl (some 0) n cs) [some (.tip E sz n)]) (hc : cs.length = n * sz) (h0 : 0 < n * sz) (hraw : ∀ x ∈ cs, ∃ v, x = .v v) :
    FC P G f args [] (.arr 0 0 n) [some (.cells E cs)] := by
  refine F.conv (Nat.zero_le _) fun A hnA _ hAB => ?_
  rw [hl_one, hl_one]
  exact SEnt.thaw (σ := ⟨1, ls [(0, .sl (some 0) n cs)], lh [(0, .tip E sz n)], _⟩) rfl rfl hc h0 hraw (by rw [hnA]; exact Nat.zero_le _) (Nat.lt_succ_self 0) (fun b hb => by obtain ⟨i, ob, h, -⟩ := hAB b hb; have := (hl_some h).1; simp at this)
theorem FC.shut {P : Program} {G : List (Nat × Array Value)} {f : FuncId} {args : List AV} {n : Nat} {o : Option Nat} {cs : List AV} {H' : List (Option AO)} (F : FC P G f args [] (.sl o n cs) H') (hb : AV.belL (blt 0) cs) (hr : AV.renL (rn []) cs = cs) : FC P G f args [] (.sl none n cs) [] := by
  refine F.conv (Nat.le_refl _) fun A hnA _ hAB => ?_
  refine (Ent.of (l := [(0, .sl none n cs)]) (lo := []) (m := 0) [] (fun i hi => by rw [hnA] at hi; cases hi) ⟨⟨⟨by simp, hb⟩, _, rfl, by
    have : AV.ren (rn []) (.sl none n cs) = .sl none n cs := by simp [AV.ren, hr]
    rw [this]; exact .untip _ _ _⟩, trivial⟩ trivial (by simp)).se

/-- a row that will not be written any more -/
theorem SEnt.freeze {A : Amb} {σ : AS} {t c n m : Nat} {E : TypeId} {cs : List AV} (hs : σ.s t = some (.arr c 0 n)) (hc : σ.h c = some (.cells E cs)) (hl : cs.length = n) (hraw : ∀ x ∈ cs, ∃ v, x = .v v) (hk : A.nA ≤ m) :
    SEnt A σ ⟨σ.n, ls [(t, .sl none n cs)], lh [], blt m⟩ := by
  intro ρ a w hst
  obtain ⟨x, hx, hv⟩ := hst.slots t _ hs
  obtain ⟨b', arr, h1, ⟨fz, hmk, h2⟩, h3, h4⟩ := hst.mem.heap c _ hc
  cases hv with
  | arr _ _ _ cap b hb hn hmx =>
    obtain rfl : b = b' := by rw [hb] at h1; exact Option.some.inj h1
    let ρ' : Env := ⟨fun i => if i < A.nA then ρ.blk i else none, fun i => if i < A.nA then ρ.tip i else none⟩
    refine ⟨ρ', ⟨⟨hst.mem.os, hst.mem.tape, hst.mem.output, hst.mem.size, hst.mem.block, hst.mem.keep, hst.mem.nlt, hst.mem.nw, hst.mem.wb, hst.mem.tabs, hst.mem.domB, hst.mem.domT, ?_, ?_, ?_, ?_, ?_, ?_, ?_⟩, ?_, hst.nt, hst.defers⟩⟩
    · intro i hi
      refine ⟨blt_iff.2 (by omega), ?_, ?_⟩
      · show (if i < A.nA then ρ.blk i else _) = _; rw [if_pos hi]; exact (hst.mem.fix i hi).2.1
      · show (if i < A.nA then ρ.tip i else _) = _; rw [if_pos hi]; exact (hst.mem.fix i hi).2.2
    · intro i b hb
      have hb' : (if i < A.nA then ρ.blk i else none) = some b := hb
      refine blt_iff.2 ?_
      split at hb'
      · omega
      · cases hb'
    · intro i b hb
      have hb' : (if i < A.nA then ρ.tip i else none) = some b := hb
      refine blt_iff.2 ?_
      split at hb'
      · omega
      · cases hb'
    · intro i ob hi; cases hi
    · intro i ob b o hi; cases hi
    · intro i ob b hi; cases hi
    · intro i j oi oj b hi; cases hi
    · intro t' v' ht'
      have hm' := ls_some ht'
      simp only [List.mem_singleton, Prod.mk.injEq] at hm'
      obtain ⟨rfl, rfl⟩ := hm'
      refine ⟨_, hx, .sl none n cs (some ⟨b, 0, none⟩) cap (fun i => arr.getD i undef) (fun i hi => ?_) (fun i c' hc' => ?_) (fun k hk => by cases hk) hn (fun h => by cases h) hmx⟩
      · have hlt : i < arr.size := by omega
        have hg : arr[i]? = some (arr.getD i undef) := by simp [Array.getD, hlt]
        obtain ⟨c', hc'⟩ : ∃ c', cs[i]? = some c' := ⟨_, List.getElem?_eq_getElem hi⟩
        refine ⟨(h4 i c' _ hc' hg).2, b, 0, rfl, ?_, (Array.getElem?_eq_some_iff.1 h2).1, ?_, fun i ob h => by cases h⟩
        · rw [cell_of_row w b (0 + i) arr E fz h2, Nat.zero_add]; exact hg
        · exact .inr (hst.mem.own c _ b (0 + i) hc hb)
      · have hi := (List.getElem?_eq_some_iff.1 hc').1
        have hlt : i < arr.size := by omega
        have hg : arr[i]? = some (arr.getD i undef) := by simp [Array.getD, hlt]
        obtain ⟨v, rfl⟩ := hraw c' (List.mem_of_getElem? hc')
        have := (h4 i _ _ hc' hg).1.raw
        show VRel _ _ _ _ (arr.getD i undef)
        rw [this]
        exact .v v
theorem OpS.rem {P : Program} {G : List (Nat × Array Value)} {t t' : TypeId} {x y : Operand} {k : IntKind} {a b : Int} (ha : 0 ≤ a) (hb : 0 < b) {dst : Option Tmp} {ty : TypeId} {pos : String} {aft : Array Edge} {gd : Option (Nat × Bool)} :
    OpS P G ⟨dst, .binOp .rem t x y t', ty, pos, aft, gd⟩ [(x, .v (.int k a)), (y, .v (.int k b))] [] ⟨some (.v (.int k (a % b))), [], []⟩ := by
  refine OpS.binR rfl fun w => ?_
  simp only [binOp, Op.intDiv]
  rw [if_neg (show ¬ b = 0 by omega), Int.tmod_eq_emod_of_nonneg ha, if_neg (show ¬ (k ≠ k) by simp)]
  rfl
theorem OpS.quo {P : Program} {G : List (Nat × Array Value)} {t t' : TypeId} {x y : Operand} {a b : Int} (ha : 0 ≤ a) (ha' : a < 9223372036854775808) (hb : 0 < b) {dst : Option Tmp} {ty : TypeId} {pos : String} {aft : Array Edge} {gd : Option (Nat × Bool)} :
    OpS P G ⟨dst, .binOp .quo t x y t', ty, pos, aft, gd⟩ [(x, .v (.int .i64 a)), (y, .v (.int .i64 b))] [] ⟨some (.v (.int .i64 (a / b))), [], []⟩ := by
  refine OpS.binR rfl fun w => ?_
  simp only [binOp, Op.intDiv]
  rw [if_neg (show ¬ b = 0 by omega), Int.tdiv_eq_ediv_of_nonneg ha, IntKind.wrap_i64]
  have h1 := Int.ediv_nonneg ha (Int.le_of_lt hb)
  have h2 : a / b ≤ a := Int.ediv_le_self b ha
  have : (a / b + 9223372036854775808) % 18446744073709551616 - 9223372036854775808 = a / b := by omega
  first | (rw [this]; rfl) | rfl
/-- one value with one entry goes back -/
theorem Ret.row {A : Amb} {n : Nat} {s : Nat → Option AV} {h : Nat → Option AO} {u : Nat → Bool} {t : Tmp} {v res : AV} {ob : AO} (i : Nat) (hs : s t = some v) (hk : v.wk (res.ren (rn [i]))) (hb : res.bel (blt 1)) (hh : h i = some (ob.ren (rn [i]))) (ho : ob.bel (blt 1)) (hA : A.nA = 0) : Ret A [t] res [some ob] .ret ⟨n, s, h, u⟩ :=
  (Ret.of (rs := [t]) (vs := [res]) (H' := [some ob]) (res := res) [i] (fun j hj => by rw [hA] at hj; cases hj) ⟨⟨hb, v, hs, hk⟩, trivial⟩ rfl ⟨⟨ho, hh⟩, trivial⟩ (by simp) (show ls [(t, res)] t = some res by simp [ls])).1
section
variable {P : Program} {G : List (Nat × Array Value)} {l r : List Oper} {K : AS → Prop} {n : Nat} {s : Nat → Option AV} {h : Nat → Option AO} {u : Nat → Bool} {d : Tmp} {ty : TypeId} {pos : String} {aft : Array Edge} {gd : Option (Nat × Bool)} {D : Bool} {acc : List St}
theorem pi_nil (b j : Nat) : pi [] b j = b + j := rfl
/-- a call that yields one new entry -/
theorem Ch.callN {f : FuncId} {args : List AV} {res : AV} {ob : AO} (b : Nat) (F : FC P G f args [] res [some ob]) {xs : List Operand} {ys : List AV} {ats : Array TypeId}
    (hg : GdOk l.toArray ⟨some d, .call ⟨.value (.func f), xs.toArray, ats⟩, ty, pos, aft, gd⟩ ⟨n, s, h, u⟩ true) (hev : EvL ⟨n, s, h, u⟩ xs ys) (hwk : WkL ys (args.map (AV.ren (pi [] b)))) {res' : AV} {ob' : AO} (hres : res.ren (pi [] b) = res') (hob : ob.ren (pi [] b) = ob') (h3 : NuOk ⟨n, s, h, u⟩ [b]) (hd : Nat.blt d n = true)
    (hr : Ch P G l D K (⟨true, xs.zip ys, [], ⟨some res', [(b, some ob')], [b]⟩⟩ :: acc) r ⟨n, upd s d (some res'), chs h [(b, some ob')], nuU u [b]⟩) :
    Ch P G l D K acc (⟨some d, .call ⟨.value (.func f), xs.toArray, ats⟩, ty, pos, aft, gd⟩ :: r) ⟨n, s, h, u⟩ := by
  subst hres
  subst hob
  exact Ch.call F [] b hg hev hwk rfl (by simp) (by simp) trivial h3 hd hr
theorem Ch.callT {f : FuncId} {args : List AV} {E : TypeId} {sz m k : Nat} {cs : List AV} (b : Nat) (F : FC P G f args [] (.sl (some 0) m cs) [some (.tip E sz k)]) {xs : List Operand} {ys : List AV} {ats : Array TypeId}
    (hg : GdOk l.toArray ⟨some d, .call ⟨.value (.func f), xs.toArray, ats⟩, ty, pos, aft, gd⟩ ⟨n, s, h, u⟩ true) (hev : EvL ⟨n, s, h, u⟩ xs ys) (hwk : WkL ys (args.map (AV.ren (pi [] b)))) (hc : AV.renL (pi [] b) cs = cs) (h3 : NuOk ⟨n, s, h, u⟩ [b]) (hd : Nat.blt d n = true)
    (hr : Ch P G l D K (⟨true, xs.zip ys, [], ⟨some (.sl (some b) m cs), [(b, some (.tip E sz k))], [b]⟩⟩ :: acc) r ⟨n, upd s d (some (.sl (some b) m cs)), chs h [(b, some (.tip E sz k))], nuU u [b]⟩) :
    Ch P G l D K acc (⟨some d, .call ⟨.value (.func f), xs.toArray, ats⟩, ty, pos, aft, gd⟩ :: r) ⟨n, s, h, u⟩ :=
  Ch.callN b F hg hev hwk (by simp [AV.ren, hc, pi_nil]) (by simp [AO.ren]) h3 hd hr
theorem Ch.callA {f : FuncId} {args : List AV} {E : TypeId} {m : Nat} {cs : List AV} (b : Nat) (F : FC P G f args [] (.arr 0 0 m) [some (.cells E cs)]) {xs : List Operand} {ys : List AV} {ats : Array TypeId}
    (hg : GdOk l.toArray ⟨some d, .call ⟨.value (.func f), xs.toArray, ats⟩, ty, pos, aft, gd⟩ ⟨n, s, h, u⟩ true) (hev : EvL ⟨n, s, h, u⟩ xs ys) (hwk : WkL ys (args.map (AV.ren (pi [] b)))) (hc : AV.renL (pi [] b) cs = cs) (h3 : NuOk ⟨n, s, h, u⟩ [b]) (hd : Nat.blt d n = true)
    (hr : Ch P G l D K (⟨true, xs.zip ys, [], ⟨some (.arr b 0 m), [(b, some (.cells E cs))], [b]⟩⟩ :: acc) r ⟨n, upd s d (some (.arr b 0 m)), chs h [(b, some (.cells E cs))], nuU u [b]⟩) :
    Ch P G l D K acc (⟨some d, .call ⟨.value (.func f), xs.toArray, ats⟩, ty, pos, aft, gd⟩ :: r) ⟨n, s, h, u⟩ :=
  Ch.callN b F hg hev hwk (by simp [AV.ren, pi_nil]) (by simp [AO.ren, hc]) h3 hd hr
end
attribute [simp] AV.ren AV.renL renL_append renL_w renL_b renL_s renL_i ren_w ren_b ren_s ren_i rn wA bA sA iA bv AV.bel AV.belL belL_w belL_b belL_s belL_i bel_w bel_b bel_s bel_i AO.bel AO.ren belH blt chs upd lh hl
end Go.Proofs.Ytjmbendppcildaa.E
end
section
/- More operations: parts of slices, calls by a value, larger and smaller, bits of whole numbers, rows made with room. -/
namespace Go.Proofs.Ytjmbendppcildaa.E
open Go Go.RowKit Go.Proofs.Ytjmbendppcildaa.V
/-- a part of a slice -/
theorem VRel.part {N : Nat → Nat → Prop} {ρ : Env} {w : World} {o : Option Nat} {n : Nat} {cs : List AV} {a : Option Addr} {n' cap : Nat} (h : VRel N ρ w (.sl o n cs) (.slice a n' cap)) {l m : Nat} (sz : Nat) (h1 : l ≤ m) (h2 : m ≤ n) :
    VRel N ρ w (.sl none (m - l) ((cs.drop (l * sz)).take ((m - l) * sz))) (sliced a l m cap sz) := by
  cases h with
  | sl o n cs a cap vals hc hcs ho hn hz hm =>
    unfold sliced
    by_cases hl : cap = l
    · have h0 : m - l = 0 := by omega
      rw [h0, Nat.zero_mul, List.take_zero]
      refine .sl _ _ _ _ _ vals (fun i hi => by cases hi) (fun i c hc' => by simp at hc') (fun k hk => by cases hk) (by omega) (fun _ => rfl) (by omega)
    · rw [if_neg hl]
      refine .sl _ _ _ _ _ (fun i => vals (l * sz + i)) (fun i hi => ?_) (fun i c hc' => ?_) (fun k hk => by cases hk) (by omega) (fun ha => ?_) (by omega)
      · have hi' : l * sz + i < cs.length := by simp at hi; omega
        obtain ⟨k1, b, off, rfl, k2, k3⟩ := hc _ hi'
        refine ⟨k1, b, off + l * sz, by simp [Addr.add_mid], ?_, ?_⟩
        · rw [Nat.add_assoc]; exact k2
        · rw [Nat.add_assoc]; exact k3
      · rw [List.getElem?_take] at hc'
        split at hc'
        · rw [List.getElem?_drop] at hc'
          exact hcs _ _ hc'
        · cases hc'
      · cases a with
        | none => have := hz rfl; omega
        | some a => cases ha
theorem VRel.isSl {N : Nat → Nat → Prop} {ρ : Env} {w : World} {o : Option Nat} {n : Nat} {cs : List AV} {x : Value} (h : VRel N ρ w (.sl o n cs) x) : ∃ a cap, x = .slice a n cap ∧ n ≤ cap := by
  cases h with
  | sl o n cs a cap vals hc hcs ho hn hz hm => exact ⟨a, cap, rfl, hn⟩
section
variable {P : Program} {G : List (Nat × Array Value)} {dst : Option Tmp} {ty : TypeId} {pos : String} {aft : Array Edge} {gd : Option (Nat × Bool)}
theorem run_sizeOf {e : TypeId} {inf : TypeInfo} (hi : P.info? e = some inf) (w : World) : (sizeOf e).run P w = .ok inf.size w := by
  simp [sizeOf, typeInfo, hi, Sem.run_bind, Sem.run_pure]
theorem elem_of {t e : TypeId} (hu : P.underlying t = some (.slice e)) : P.elem t = e := by
  simp [Program.elem, hu]
theorem OpS.slLH {t e : TypeId} {inf : TypeInfo} {x i j : Operand} {o : Option Nat} {n sz : Nat} {cs : List AV} {k k' : IntKind} {a b : Int} {l m : Nat} (hu : P.underlying t = some (.slice e)) (hi : P.info? e = some inf) (hz : inf.size = sz) (ha : a.toNat = l) (hb : b.toNat = m) (h0 : 0 ≤ a) (h1 : a ≤ b) (h2 : b ≤ (n : Int)) :
    OpS P G ⟨dst, .slice t x (some i) (some j) none, ty, pos, aft, gd⟩ [(x, .sl o n cs), (i, .v (.int k a)), (j, .v (.int k' b))] [] ⟨some (.sl none (m - l) ((cs.drop (l * sz)).take ((m - l) * sz))), [], []⟩ := by
  subst ha; subst hb; subst hz
  refine OpS.still fun A ρ σ a' w _ h _ hs => ?_
  have hx := hs.ev h.1
  obtain ⟨ad, cap, he, hc⟩ := hx.isSl
  rw [he] at hx
  refine ⟨sliced ad a.toNat b.toNat cap inf.size, ?_, hx.part inf.size (by omega) (by omega)⟩
  refine runv (s := Instr.sliceAt t (a'.eval x) (some (a'.eval i)) (some (a'.eval j)) none) ?_
  rw [he, (hs.ev h.2.1).raw, (hs.ev h.2.2.1).raw]
  have hu' : P.underlying t = some (.slice (P.elem t)) := by rw [elem_of hu]; exact hu
  rw [run_sliceAt_slice w t _ _ _ _ hu', run_slice_lh w t ad n cap hu' k k' a b h0 h1 (by omega), elem_of hu, run_sizeOf hi]
  rfl
theorem OpS.slL {t e : TypeId} {inf : TypeInfo} {x i : Operand} {o : Option Nat} {n sz : Nat} {cs : List AV} {k : IntKind} {a : Int} {l : Nat} (hu : P.underlying t = some (.slice e)) (hi : P.info? e = some inf) (hz : inf.size = sz) (ha : a.toNat = l) (h0 : 0 ≤ a) (h1 : a ≤ (n : Int)) :
    OpS P G ⟨dst, .slice t x (some i) none none, ty, pos, aft, gd⟩ [(x, .sl o n cs), (i, .v (.int k a))] [] ⟨some (.sl none (n - l) ((cs.drop (l * sz)).take ((n - l) * sz))), [], []⟩ := by
  subst ha; subst hz
  refine OpS.still fun A ρ σ a' w _ h _ hs => ?_
  have hx := hs.ev h.1
  obtain ⟨ad, cap, he, hc⟩ := hx.isSl
  rw [he] at hx
  refine ⟨sliced ad a.toNat n cap inf.size, ?_, hx.part inf.size (by omega) (by omega)⟩
  refine runv (s := Instr.sliceAt t (a'.eval x) (some (a'.eval i)) none none) ?_
  rw [he, (hs.ev h.2.1).raw]
  have hu' : P.underlying t = some (.slice (P.elem t)) := by rw [elem_of hu]; exact hu
  rw [run_sliceAt_slice w t _ _ _ _ hu', run_slice_l w t ad n cap hu' k a h0 h1, elem_of hu, run_sizeOf hi]
  rfl
theorem OpS.slH {t e : TypeId} {inf : TypeInfo} {x j : Operand} {o : Option Nat} {n sz : Nat} {cs : List AV} {k : IntKind} {b : Int} {m : Nat} (hu : P.underlying t = some (.slice e)) (hi : P.info? e = some inf) (hz : inf.size = sz) (hb : b.toNat = m) (h0 : 0 ≤ b) (h1 : b ≤ (n : Int)) :
    OpS P G ⟨dst, .slice t x none (some j) none, ty, pos, aft, gd⟩ [(x, .sl o n cs), (j, .v (.int k b))] [] ⟨some (.sl none m (cs.take (m * sz))), [], []⟩ := by
  subst hb; subst hz
  refine OpS.still fun A ρ σ a' w _ h _ hs => ?_
  have hx := hs.ev h.1
  obtain ⟨ad, cap, he, hc⟩ := hx.isSl
  rw [he] at hx
  refine ⟨sliced ad 0 b.toNat cap inf.size, ?_, ?_⟩
  · refine runv (s := Instr.sliceAt t (a'.eval x) none (some (a'.eval j)) none) ?_
    rw [he, (hs.ev h.2.1).raw]
    have hu' : P.underlying t = some (.slice (P.elem t)) := by rw [elem_of hu]; exact hu
    rw [run_sliceAt_slice w t _ _ _ _ hu', run_slice_h w t ad n cap hu' k b h0 (by omega), elem_of hu, run_sizeOf hi]
    rfl
  · have := hx.part (l := 0) (m := b.toNat) inf.size (by omega) (by omega)
    simpa using this
/-- the same, of elements of one cell -/
theorem OpS.slLH1 {α : Type} {t e : TypeId} {inf : TypeInfo} {x i j : Operand} {o : Option Nat} {n : Nat} {f : α → AV} {cs : List α} {k k' : IntKind} {a b : Int} {l m : Nat} (hu : P.underlying t = some (.slice e)) (hi : P.info? e = some inf) (hz : inf.size = 1) (ha : a.toNat = l) (hb : b.toNat = m) (h0 : 0 ≤ a) (h1 : a ≤ b) (h2 : b ≤ (n : Int)) :
    OpS P G ⟨dst, .slice t x (some i) (some j) none, ty, pos, aft, gd⟩ [(x, .sl o n (cs.map f)), (i, .v (.int k a)), (j, .v (.int k' b))] [] ⟨some (.sl none (m - l) (((cs.drop l).take (m - l)).map f)), [], []⟩ := by
  have := OpS.slLH (P := P) (G := G) (dst := dst) (ty := ty) (pos := pos) (aft := aft) (gd := gd) (t := t) (x := x) (i := i) (j := j) (o := o) (n := n) (cs := cs.map f) (k := k) (k' := k') hu hi hz ha hb h0 h1 h2
  simpa [List.map_drop, List.map_take] using this
theorem OpS.slL1 {α : Type} {t e : TypeId} {inf : TypeInfo} {x i : Operand} {o : Option Nat} {n : Nat} {f : α → AV} {cs : List α} {k : IntKind} {a : Int} {l : Nat} (hu : P.underlying t = some (.slice e)) (hi : P.info? e = some inf) (hz : inf.size = 1) (ha : a.toNat = l) (h0 : 0 ≤ a) (h1 : a ≤ (n : Int)) (hl : cs.length = n) :
    OpS P G ⟨dst, .slice t x (some i) none none, ty, pos, aft, gd⟩ [(x, .sl o n (cs.map f)), (i, .v (.int k a))] [] ⟨some (.sl none (n - l) ((cs.drop l).map f)), [], []⟩ := by
  have := OpS.slL (P := P) (G := G) (dst := dst) (ty := ty) (pos := pos) (aft := aft) (gd := gd) (t := t) (x := x) (i := i) (o := o) (n := n) (cs := cs.map f) (k := k) hu hi hz ha h0 h1
  have e : (((cs.map f).drop (l * 1)).take ((n - l) * 1)) = (cs.drop l).map f := by
    rw [Nat.mul_one, Nat.mul_one, List.take_of_length_le (by simp; omega), List.map_drop]
  rwa [e] at this
theorem OpS.slH1 {α : Type} {t e : TypeId} {inf : TypeInfo} {x j : Operand} {o : Option Nat} {n : Nat} {f : α → AV} {cs : List α} {k : IntKind} {b : Int} {m : Nat} (hu : P.underlying t = some (.slice e)) (hi : P.info? e = some inf) (hz : inf.size = 1) (hb : b.toNat = m) (h0 : 0 ≤ b) (h1 : b ≤ (n : Int)) :
    OpS P G ⟨dst, .slice t x none (some j) none, ty, pos, aft, gd⟩ [(x, .sl o n (cs.map f)), (j, .v (.int k b))] [] ⟨some (.sl none m ((cs.take m).map f)), [], []⟩ := by
  have := OpS.slH (P := P) (G := G) (dst := dst) (ty := ty) (pos := pos) (aft := aft) (gd := gd) (t := t) (x := x) (j := j) (o := o) (n := n) (cs := cs.map f) (k := k) hu hi hz hb h0 h1
  simpa [List.map_take] using this
theorem natb_eq (a b : Nat) : Value.bool (((a : Int)) == ((b : Nat) : Int)) = Value.bool (decide (a = b)) := by
  congr 1
  rw [Bool.eq_iff_iff]
  simp
  omega
theorem OpS.maxI {x y : Operand} {ats : Array TypeId} {k k' : IntKind} {a b c : Int} (hc : (if b > a then b else a) = c) :
    OpS P G ⟨dst, .call ⟨.builtin .max, #[x, y], ats⟩, ty, pos, aft, gd⟩ [(x, .v (.int k a)), (y, .v (.int k' b))] [] ⟨some (.v (.int k c)), [], []⟩ := by
  subst hc
  refine OpS.still fun A ρ σ a' w _ h _ hs => ⟨_, ?_, .v _⟩
  obtain ⟨cs, he⟩ := exec_b2 a'.eval .max x y ats (dst := dst) (ty := ty) (pos := pos) (aft := aft) (gd := gd)
  rw [he]
  refine runv (s := Builtin.max_ ats ty #[a'.eval x, a'.eval y]) ?_
  rw [(hs.ev h.1).raw, (hs.ev h.2.1).raw]
  exact run_max_int2 w ats ty k k' a b
theorem OpS.minI {x y : Operand} {ats : Array TypeId} {k k' : IntKind} {a b c : Int} (hc : (if b < a then b else a) = c) :
    OpS P G ⟨dst, .call ⟨.builtin .min, #[x, y], ats⟩, ty, pos, aft, gd⟩ [(x, .v (.int k a)), (y, .v (.int k' b))] [] ⟨some (.v (.int k c)), [], []⟩ := by
  subst hc
  refine OpS.still fun A ρ σ a' w _ h _ hs => ⟨_, ?_, .v _⟩
  obtain ⟨cs, he⟩ := exec_b2 a'.eval .min x y ats (dst := dst) (ty := ty) (pos := pos) (aft := aft) (gd := gd)
  rw [he]
  refine runv (s := Builtin.min_ ats ty #[a'.eval x, a'.eval y]) ?_
  rw [(hs.ev h.1).raw, (hs.ev h.2.1).raw]
  exact run_min_int2 w ats ty k k' a b
theorem bits_nat (f : Nat → Nat → Nat) (g : BitVec 64 → BitVec 64 → BitVec 64) (hg : ∀ x y, (g x y).toNat = f x.toNat y.toNat) (hf : ∀ a b : Nat, a < 2 ^ 63 → b < 2 ^ 63 → f a b < 2 ^ 63) (a b : Nat) (ha : a < 2 ^ 63) (hb : b < 2 ^ 63) :
    IntKind.i64.wrap ((g (BitVec.ofInt 64 (a : Int)) (BitVec.ofInt 64 (b : Int))).toNat : Int) = ((f a b : Nat) : Int) := by
  have e : ∀ n : Nat, n < 2 ^ 63 → (BitVec.ofInt 64 (n : Int)).toNat = n := fun n hn => by
    rw [BitVec.toNat_ofInt]
    omega
  rw [hg, e a ha, e b hb]
  have := wr64 (n := ((f a b : Nat) : Int)) (by have := hf a b ha hb; omega)
  injection this
theorem OpS.xorN {t t' : TypeId} {x y : Operand} {a b : Nat} (ha : a < 2 ^ 63) (hb : b < 2 ^ 63) :
    OpS P G ⟨dst, .binOp .xor t x y t', ty, pos, aft, gd⟩ [(x, .v (.int .i64 (a : Int))), (y, .v (.int .i64 (b : Int)))] [] ⟨some (.v (.int .i64 ((a ^^^ b : Nat) : Int))), [], []⟩ :=
  OpS.binR rfl fun w => by
    show (Op.intBits .xor .i64 (a : Int) (b : Int)).run P w = _
    unfold Op.intBits
    show Result.ok (Value.int .i64 (IntKind.i64.wrap ((BitVec.ofInt 64 (a : Int) ^^^ BitVec.ofInt 64 (b : Int)).toNat : Int))) w = _
    rw [bits_nat (· ^^^ ·) (· ^^^ ·) (fun x y => BitVec.toNat_xor x y) (fun a b ha hb => Nat.xor_lt_two_pow ha hb) a b ha hb]
theorem OpS.andN {t t' : TypeId} {x y : Operand} {a b : Nat} (ha : a < 2 ^ 63) (hb : b < 2 ^ 63) :
    OpS P G ⟨dst, .binOp .and t x y t', ty, pos, aft, gd⟩ [(x, .v (.int .i64 (a : Int))), (y, .v (.int .i64 (b : Int)))] [] ⟨some (.v (.int .i64 ((a &&& b : Nat) : Int))), [], []⟩ :=
  OpS.binR rfl fun w => by
    show (Op.intBits .and .i64 (a : Int) (b : Int)).run P w = _
    unfold Op.intBits
    show Result.ok (Value.int .i64 (IntKind.i64.wrap ((BitVec.ofInt 64 (a : Int) &&& BitVec.ofInt 64 (b : Int)).toNat : Int))) w = _
    rw [bits_nat (· &&& ·) (· &&& ·) (fun x y => BitVec.toNat_and x y) (fun a b ha hb => Nat.and_lt_two_pow a hb) a b ha hb]
theorem OpS.strEqB {t t' : TypeId} {x y : Operand} {a b : List UInt8} {c : Bool} (h : decide (a = b) = c) :
    OpS P G ⟨dst, .binOp .eql t x y t', ty, pos, aft, gd⟩ [(x, .v (.string (B a))), (y, .v (.string (B b)))] [] ⟨some (.v (.bool c)), [], []⟩ := by
  subst h
  exact OpS.strEql
theorem OpS.strNeB {t t' : TypeId} {x y : Operand} {a b : List UInt8} {c : Bool} (h : (!decide (a = b)) = c) :
    OpS P G ⟨dst, .binOp .neq t x y t', ty, pos, aft, gd⟩ [(x, .v (.string (B a))), (y, .v (.string (B b)))] [] ⟨some (.v (.bool c)), [], []⟩ := by
  subst h
  exact OpS.strNeq
theorem OpS.negI {t : TypeId} {x : Operand} {a b : Int} (hb : b = -a) (h : -9223372036854775808 ≤ b ∧ b < 9223372036854775808) :
    OpS P G ⟨dst, .unOp .neg t x, ty, pos, aft, gd⟩ [(x, .v (.int .i64 a))] [] ⟨some (.v (.int .i64 b)), [], []⟩ :=
  OpS.unR fun w => by
    subst hb
    have e : (-a) = 0 - a := by omega
    show Result.ok (Value.int .i64 (IntKind.i64.wrap (0 - a))) w = _
    rw [e] at h ⊢
    rw [wr64 h]
/-- make: nothing yet, with room -/
theorem OpS.makeTip {t E : TypeId} {inf : TypeInfo} {z : Value} {x y : Operand} {k k' : IntKind} {m c : Int} {n sz bb : Nat} (id : Nat) (hu : P.underlying t = some (.slice E)) (hi : P.info? E = some inf) (hz : inf.zero = some z) (hsz : inf.size = sz) (hm : m = 0) (hc : c = (n : Int))
    (hbb : inf.bytes = bb) (hb : n * bb ≤ 281474976710656) (hn : n ≤ maxLen) :
    OpS P G ⟨dst, .makeSlice t x y, ty, pos, aft, gd⟩ [(x, .v (.int k m)), (y, .v (.int k' c))] [] ⟨some (.sl (some id) 0 []), [(id, some (.tip E sz 0))], [id]⟩ := by
  subst hm; subst hc; subst hsz; subst hbb
  refine OpS.act fun A ρ σ a w _ h hp hnu hs => ?_
  have hn' : ((n : Int)) ≤ 9223372036854775807 := by unfold maxLen at hn; omega
  have hb' : (inf.bytes : Int) * (n : Int) ≤ 281474976710656 := by
    have h : ((n * inf.bytes : Nat) : Int) ≤ 281474976710656 := by omega
    rw [Int.mul_comm]
    rwa [Int.natCast_mul] at h
  have hr := run_make (P := P) w t E inf z hu hi hz k k' 0 (n : Int) (by omega) (by omega) hb' hn'
  simp only [Int.toNat_natCast] at hr
  let ρ' : Env := ⟨ρ.blk, upd ρ.tip id (some (.slice (some ⟨w.heap.size, 0, none⟩) 0 n))⟩
  have hid : ρ'.tip id = some (.slice (some ⟨w.heap.size, 0, none⟩) 0 n) := upd_same _ _ _
  obtain ⟨m1, m2⟩ := hs.mem.extend (ρ' := ρ') (ob := .tip E inf.size 0) (w' := w.alloc (.cells (madeCells z.cells (n * inf.size)) E)) hnu.1 (fun i hi => ⟨rfl, upd_ne _ _ hi⟩) rfl rfl rfl (by simp) (fun k hk => Below.heap_alloc w _ k hk)
    (fun b ⟨cap, hb⟩ => by rw [hid] at hb; cases hb; exact Nat.le_refl _) (fun _ => .inr ⟨w.heap.size, n, _, hid, heap_alloc_new w _, Nat.zero_le _, hn, by simp [madeCells]⟩)
  refine ⟨_, _, ρ', .inl ?_, m1, m2, fun v hv => by
    cases hv
    exact .sl _ _ _ _ n (fun _ => undef) (fun i hi => by cases hi) (fun i c hc => by simp at hc) (fun k hk => by cases hk; exact hid) (Nat.zero_le _) (fun h => by cases h) hn⟩
  refine runv (s := Instr.makeSlice t (a.eval x) (a.eval y)) ?_
  rw [(hs.ev h.1).raw, (hs.ev h.2.1).raw]
  exact hr
/-- make: a row of noughts that nobody writes -/
theorem OpS.makeS {t E : TypeId} {inf : TypeInfo} {z : Value} {x y : Operand} {k k' : IntKind} {m : Int} {n bb : Nat} {cs : List AV} (hu : P.underlying t = some (.slice E)) (hi : P.info? E = some inf) (hz : inf.zero = some z) (hsz : inf.size = 1) (hzc : z.cells = #[z]) (h1 : z.oneCell' = true) (hm : m = (n : Int))
    (hcs : List.replicate n (.v z) = cs) (hbb : inf.bytes = bb) (hb : n * bb ≤ 281474976710656) (hn : n ≤ maxLen) :
    OpS P G ⟨dst, .makeSlice t x y, ty, pos, aft, gd⟩ [(x, .v (.int k m)), (y, .v (.int k' m))] [] ⟨some (.sl none n cs), [], []⟩ := by
  subst hm; subst hcs; subst hbb
  refine OpS.act fun A ρ σ a w _ h hp hu' hs => ?_
  have hl : (madeCells z.cells (n * inf.size)).toList = List.replicate n z := by rw [hzc, hsz, Nat.mul_one, madeCells_one]
  obtain ⟨k1, k2, k3⟩ := new_slice (w' := w.alloc (.cells (madeCells z.cells (n * inf.size)) E)) (T := E) (fz := (0, 0)) (cs := List.replicate n (.v z)) (n := n) (cap := n) hs.mem rfl rfl rfl (by simp) (fun k hk => Below.heap_alloc w _ k hk) (heap_alloc_new w _)
    (by rw [List.length_replicate, ← Array.length_toList, hl, List.length_replicate]; exact Nat.le_refl _) (Nat.le_refl _) hn (fun j c v hc hv => by
    rw [← Array.getElem?_toList, hl] at hv
    rw [List.getElem?_replicate] at hc hv
    split at hc
    · rw [if_pos ‹_›] at hv
      cases hc; cases hv
      exact ⟨.v _, h1⟩
    · cases hc)
  have hn' : ((n : Int)) ≤ 9223372036854775807 := by unfold maxLen at hn; omega
  have hb' : (inf.bytes : Int) * (n : Int) ≤ 281474976710656 := by
    have h : ((n * inf.bytes : Nat) : Int) ≤ 281474976710656 := by omega
    rw [Int.mul_comm]
    rwa [Int.natCast_mul] at h
  have hr := run_make (P := P) w t E inf z hu hi hz k k' (n : Int) (n : Int) (by omega) (Int.le_refl _) hb' hn'
  simp only [Int.toNat_natCast] at hr
  refine ⟨_, _, ρ, .inl ?_, k1, k2, fun v hv => by cases hv; exact k3⟩
  refine runv (s := Instr.makeSlice t (a.eval x) (a.eval y)) ?_
  rw [(hs.ev h.1).raw, (hs.ev h.2.1).raw]
  exact hr
/-- append, onto nothing -/
theorem OpS.appendN {E t tx : TypeId} {inf : TypeInfo} {z : Value} {s x : Operand} {m sz bb : Nat} {ds : List AV} {y : AV} (c c' : Nat) (hcc : (Nat.beq c' c) = false) (ht : P.underlying t = some (.slice E)) (hi : P.info? E = some inf) (hz : inf.zero = some z) (hsz : inf.size = sz) (hzs : z.cells.size = sz) (h0 : 0 < sz)
    (hs : SrcA P sz tx y m ds) (hdl : ds.length = m * sz) (hmax : m ≤ maxLen) (hbb : inf.bytes = bb) (hb : m * bb ≤ 140737488355328) :
    OpS P G ⟨dst, .call ⟨.builtin .append, #[s, x], #[t, tx]⟩, ty, pos, aft, gd⟩ [(s, .v (.slice none 0 0)), (x, y)] [] ⟨some (.sl (some c') m ds), [(c, none), (c', some (.tip E sz m))], [c, c']⟩ := by
  subst hbb
  have hcc' : c' ≠ c := fun e => by subst e; simp at hcc
  refine OpS.act fun A ρ σ a w _ h hp hu hst => ?_
  obtain ⟨news, hsrc, hds⟩ := hs _ _ _ _ (hst.ev h.2.1)
  let ρ1 : Env := ⟨ρ.blk, upd ρ.tip c (some (.slice none 0 0))⟩
  have hid : ρ1.tip c = some (.slice none 0 0) := upd_same _ _ _
  obtain ⟨m1, m2⟩ := hst.mem.extend (ρ' := ρ1) (ob := .tip E sz 0) (w' := w) hu.1 (fun i hi => ⟨rfl, upd_ne _ _ hi⟩) rfl rfl rfl (Nat.le_refl _) (fun k hk => rfl) (fun b ⟨cap, hb⟩ => by rw [hid] at hb; cases hb) (fun _ => .inl ⟨hid, rfl⟩)
  have hv : VRel (Nh A (upd σ.h c (some (.tip E sz 0))) ρ1 w) ρ1 w (.sl (some c) 0 []) (.slice none 0 0) :=
    .sl _ _ _ _ _ (fun _ => undef) (fun i hi => by cases hi) (fun i c hc => by simp at hc) (fun k hk => by cases hk; exact hid) (Nat.le_refl _) (fun _ => rfl) (by unfold maxLen; omega)
  have hxs : w.ownsRow 0 E sz (.slice none 0 0) 0 [] := World.ownsRow_nil w 0 _ sz
  obtain ⟨v', w', hr, hown, hg⟩ := run_append_two (P := P) w t tx ty E inf z sz ht hi hz hsz hzs h0 _ 0 [] hxs _ m news hsrc (by omega) (by simpa using hb)
  obtain ⟨ρ', k1, k2, k3⟩ := append_tip (σ := ⟨σ.n, σ.s, upd σ.h c (some (.tip E sz 0)), nuU σ.u [c]⟩) (c := c) (c' := c') (ds := ds) m1 (upd_same _ _ _) (by show nuU σ.u [c] c' = false; rw [nuU_eq, hu.2.1]; simp [hcc']) hv (by simp) hxs hown hsrc.newsLen hdl
    (fun j d x hj hx => ⟨m2 _ _ (hds j d x hj hx), hsrc.one x (List.mem_of_getElem? hx)⟩) (by omega) hg
  have eh : upd (upd (upd σ.h c (some (AO.tip E sz 0))) c none) c' (some (.tip E sz (0 + m))) = chs σ.h [(c, none), (c', some (.tip E sz m))] := by
    rw [Nat.zero_add]
    show _ = upd (upd σ.h c none) c' _
    congr 1
    funext i
    by_cases hi : i = c
    · subst hi; rw [upd_same, upd_same]
    · rw [upd_ne _ _ hi, upd_ne _ _ hi, upd_ne _ _ hi]
  have eu : nuU (nuU σ.u [c]) [c'] = nuU σ.u [c, c'] := by
    funext i
    rw [nuU_eq, nuU_eq, nuU_eq]
    simp [Bool.or_assoc]
  rw [show ([] ++ ds : List AV) = ds from rfl] at k3
  change HSat A ρ' (upd (upd (upd σ.h c (some (AO.tip E sz 0))) c none) c' (some (.tip E sz (0 + m)))) (nuU (nuU σ.u [c]) [c']) w' at k1
  change ∀ av y, VRel (Nh A (upd σ.h c (some (.tip E sz 0))) ρ1 w) ρ1 w av y → VRel (Nh A (upd (upd (upd σ.h c (some (AO.tip E sz 0))) c none) c' (some (.tip E sz (0 + m)))) ρ' w') ρ' w' av y at k2
  change VRel (Nh A (upd (upd (upd σ.h c (some (AO.tip E sz 0))) c none) c' (some (.tip E sz (0 + m)))) ρ' w') ρ' w' _ _ at k3
  rw [eh] at k1 k2 k3
  rw [eu] at k1
  rw [Nat.zero_add] at k3
  obtain ⟨css, he⟩ := exec_b2 a.eval .append s x #[t, tx] (dst := dst) (ty := ty) (pos := pos) (aft := aft) (gd := gd)
  refine ⟨v', w', ρ', .inl ?_, k1, fun av y hy => k2 _ _ (m2 _ _ hy), fun v hv' => by cases hv'; exact k3⟩
  rw [he]
  refine runv (s := Builtin.append_ #[t, tx] ty #[a.eval s, a.eval x]) ?_
  rw [(hst.ev h.1).raw]
  exact hr
/-- a call by a value -/
theorem OpS.callD {f : FuncId} {args : List AV} {H H' : List (Option AO)} {res : AV} (F : FC P G f args H res H') (old : List Nat) (base : Nat) (hol : old.length = H.length) (hnd : old.Nodup) (hlt : ∀ x ∈ old, x < base)
    {c : Operand} {xs : List Operand} {ys : List AV} (ho : xs.length = ys.length) (hwk : WkL ys (args.map (AV.ren (pi old base)))) {ats : Array TypeId} :
    OpS P G ⟨dst, .call ⟨.value c, xs.toArray, ats⟩, ty, pos, aft, gd⟩ ((c :: xs).zip (.v (.func (.func f) #[] #[]) :: ys)) (hpl (pi old base) old H) (callEff old base res H.length H') := by
  constructor
  intro A ρ σ a w K Q hG h1 h2 h3 hd hs hK
  obtain ⟨fn, cd, hf, hname, hb⟩ := F.enter
  have hcv : a.eval c = .func (.func f) #[] #[] := (hs.ev h1.1).raw
  have hrun : (execOp a.eval ⟨dst, .call ⟨.value c, xs.toArray, ats⟩, ty, pos, aft, gd⟩).run P w = .ok (.enter f (xs.map a.eval).toArray) w := by
    have := run_enter hf hname hb (xs.map a.eval).toArray w
    show (do let d ← Deferred.ofValue (a.eval c) (xs.toArray.map a.eval); invoke d.target d.args : Sem Next).run P w = _
    rw [hcv]
    show (callFunc f (#[] ++ xs.toArray.map a.eval ++ #[])).run P w = _
    simpa using this
  unfold Oper.wp
  rw [hrun, Oper.upon_enter]
  refine (call_sat F hol hnd hlt hG hs h2 h3 hd (vs := (xs.map a.eval).toArray) (ys := ys) (by simp [ho]) ?_ hwk).mono ?_
  · intro i y x hy hx
    rw [List.getElem?_toArray, List.getElem?_map] at hx
    cases hxi : xs[i]? with
    | none => rw [hxi] at hx; cases hx
    | some o => rw [hxi] at hx; cases hx; exact ev_ops hs h1.2 i o y hxi hy
  · rintro e w' ⟨v, ρ', rfl, hs'⟩
    exact hK _ _ ρ' hs'
end
section
variable {P : Program} {G : List (Nat × Array Value)} {l r : List Oper} {K : AS → Prop} {n : Nat} {s : Nat → Option AV} {h : Nat → Option AO} {u : Nat → Bool} {d : Tmp} {ty : TypeId} {pos : String} {aft : Array Edge} {gd : Option (Nat × Bool)} {D : Bool} {acc : List St}
/-- a call of a function that yields a slice -/
theorem Ch.callS {f : FuncId} {args : List AV} {m : Nat} {cs : List AV} (F : FC P G f args [] (.sl none m cs) []) {xs : List Operand} {ys : List AV} {ats : Array TypeId}
    (hg : GdOk l.toArray ⟨some d, .call ⟨.value (.func f), xs.toArray, ats⟩, ty, pos, aft, gd⟩ ⟨n, s, h, u⟩ true) (hev : EvL ⟨n, s, h, u⟩ xs ys) (hwk : WkL ys (args.map (AV.ren (pi [] 0)))) (hc : AV.renL (pi [] 0) cs = cs) (hd : Nat.blt d n = true)
    (hr : Ch P G l D K (⟨true, xs.zip ys, [], ⟨some (.sl none m cs), [], []⟩⟩ :: acc) r ⟨n, upd s d (some (.sl none m cs)), h, u⟩) :
    Ch P G l D K acc (⟨some d, .call ⟨.value (.func f), xs.toArray, ats⟩, ty, pos, aft, gd⟩ :: r) ⟨n, s, h, u⟩ :=
  Ch.callP F hg hev hwk (res' := .sl none m cs) (by simp [AV.ren, hc]) hd hr
/-- a call by a value, of a function that only computes -/
theorem Ch.callD {f : FuncId} {args : List AV} {res : AV} (F : FC P G f args [] res []) {c : Operand} {xs : List Operand} {ys : List AV} {ats : Array TypeId}
    (hg : GdOk l.toArray ⟨some d, .call ⟨.value c, xs.toArray, ats⟩, ty, pos, aft, gd⟩ ⟨n, s, h, u⟩ true) (hev : EvL ⟨n, s, h, u⟩ (c :: xs) (.v (.func (.func f) #[] #[]) :: ys)) (hwk : WkL ys (args.map (AV.ren (pi [] 0)))) {res' : AV} (hres : res.ren (pi [] 0) = res') (hd : Nat.blt d n = true)
    (hr : Ch P G l D K (⟨true, (c :: xs).zip (.v (.func (.func f) #[] #[]) :: ys), [], ⟨some res', [], []⟩⟩ :: acc) r ⟨n, upd s d (some res'), h, u⟩) :
    Ch P G l D K acc (⟨some d, .call ⟨.value c, xs.toArray, ats⟩, ty, pos, aft, gd⟩ :: r) ⟨n, s, h, u⟩ := by
  subst hres
  have hlen : xs.length = ys.length := by have := hev.ok.2; simpa using this
  exact Ch.cons (st := ⟨true, (c :: xs).zip (.v (.func (.func f) #[] #[]) :: ys), [], ⟨some (res.ren (pi [] 0)), [], []⟩⟩) ⟨hg, fun _ => ⟨OpS.callD F [] 0 rfl (by simp) (by simp) hlen hwk, hev.ok.1, trivial, trivial, fun t ht => by cases ht; exact Nat.blt_eq.mp hd⟩, fun h => nomatch h⟩ hr
end
theorem belL_append (u : Nat → Bool) : ∀ a b : List AV, AV.belL u (a ++ b) ↔ AV.belL u a ∧ AV.belL u b
  | [], b => by simp [AV.belL]
  | x :: a, b => by
    show AV.bel u x ∧ AV.belL u (a ++ b) ↔ (AV.bel u x ∧ AV.belL u a) ∧ AV.belL u b
    rw [belL_append u a b, and_assoc]
attribute [simp] belL_append
/-- ways that meet -/
theorem WP.seqJ {P : Program} {A : Amb} {Q : Exit → AS → Prop} {σ : AS} {x y : Code} (J : AS → Prop) (h1 : WP P A x (thn (fun σ => ∃ σ', SEnt A σ σ' ∧ J σ') Q) σ) (h2 : ∀ σ, J σ → WP P A y Q σ) : WP P A (.seq x y) Q σ :=
  WP.seq (h1.mono fun e σ' h => by
    cases e with
    | normal => obtain ⟨σ2, hs, hj⟩ := h; exact WP.from hs (h2 σ2 hj)
    | _ => exact h)
/-- two values go back -/
theorem Ret.two {A : Amb} {n : Nat} {s : Nat → Option AV} {h : Nat → Option AO} {u : Nat → Bool} {t1 t2 : Tmp} {v1 v2 r1 r2 : AV} (h1 : s t1 = some v1) (h2 : s t2 = some v2) (k1 : v1.wk (r1.ren (rn []))) (k2 : v2.wk (r2.ren (rn []))) (b1 : r1.bel (blt 0)) (b2 : r2.bel (blt 0))
    (hne : (Nat.beq t2 t1) = false) (hA : A.nA = 0) : Ret A [t1, t2] (.tup [r1, r2]) [] .ret ⟨n, s, h, u⟩ :=
  (Ret.of (rs := [t1, t2]) (vs := [r1, r2]) (H' := []) (res := .tup [r1, r2]) [] (fun i hi => by rw [hA] at hi; omega) ⟨⟨b1, v1, h1, k1⟩, ⟨b2, v2, h2, k2⟩, trivial⟩ rfl trivial (by simp)
    (show RetV [t1, t2] (.tup [r1, r2]) _ from ⟨[r1, r2], rfl, rfl, by simp [ls, TsOk, List.zip, List.zipWith, hne]⟩)).1
end Go.Proofs.Ytjmbendppcildaa.E
end
section
/- Functions as values: variables that nobody writes any more, closures, calls of them; nothing as a row to append to. -/
namespace Go.Proofs.Ytjmbendppcildaa.E
open Go Go.RowKit Go.Proofs.Ytjmbendppcildaa.V
section
variable {P : Program} {G : List (Nat × Array Value)} {dst : Option Tmp} {ty : TypeId} {pos : String} {aft : Array Edge} {gd : Option (Nat × Bool)}
/-- a variable with a value that nobody writes any more -/
theorem OpS.boxS {T : TypeId} {x : Operand} {y : AV} : OpS P G ⟨dst, .box T x, ty, pos, aft, gd⟩ [(x, y)] [] ⟨some (.sptr (cellsA y)), [], []⟩ := by
  refine OpS.act fun A ρ σ a w _ h hp hu hs => ?_
  obtain ⟨c1, c2⟩ := cellsA_rel (hs.ev h.1)
  obtain ⟨k1, k2, k3⟩ := hs.mem.grow (w' := w.alloc (.cells (a.eval x).cells T)) rfl rfl rfl (by simp) (fun k hk => Below.heap_alloc w _ k hk)
  refine ⟨.pointer (some ⟨w.heap.size, 0, none⟩), w.alloc (.cells (a.eval x).cells T), ρ, .inl ?_, k1, k2, fun v hv => by
    cases hv
    have hgd : ∀ i, i < (cellsA y).length → (a.eval x).cells[i]? = some ((a.eval x).cells.getD i undef) := fun i hi => by
      have : i < (a.eval x).cells.size := by omega
      simp [Array.getD_eq_getD_getElem?, this]
    refine .sptr (cellsA y) w.heap.size 0 (fun i => (a.eval x).cells.getD i undef) (fun i hi => ⟨?_, k3 _ _ (Nat.le_refl _) (by simp)⟩) (fun i c hc => ?_)
    · rw [cell_of_row _ w.heap.size (0 + i) (a.eval x).cells T (0, 0) (heap_alloc_new w _), Nat.zero_add]
      exact hgd i hi
    · exact k2 _ _ (c2 i c _ hc (hgd i (List.getElem?_eq_some_iff.1 hc).1))⟩
  refine runv (s := Instr.box T (a.eval x)) ?_
  simp [Instr.box, newVar, newRow, Sem.run_bind, Sem.run_pure, Result.andThen_ok]
theorem OpS.makeFunc {fn : Fn} {xs : List Operand} {ys : List AV} (hl : xs.length = ys.length) : OpS P G ⟨dst, .makeFunc fn #[] xs.toArray, ty, pos, aft, gd⟩ (xs.zip ys) [] ⟨some (.fn fn [] ys), [], []⟩ :=
  OpS.still fun A ρ σ a w _ h _ hs => ⟨.func fn #[] (xs.map a.eval).toArray, by
    have e : execOp a.eval ⟨dst, .makeFunc fn #[] xs.toArray, ty, pos, aft, gd⟩ = (do pure (Next.value (← Instr.makeFunc fn (#[].map a.eval) (xs.toArray.map a.eval)))) := rfl
    rw [e]
    refine runv ?_
    simp [Instr.makeFunc], .fn fn [] ys _ _ rfl (fun i c x hc => by simp at hc) (by simp [hl]) (fun i c x hc hx => by
      rw [List.getElem?_toArray, List.getElem?_map] at hx
      cases hxi : xs[i]? with
      | none => rw [hxi] at hx; cases hx
      | some o => rw [hxi] at hx; cases hx; exact ev_ops hs h i o c hxi hc)⟩
/-- a call of a closure -/
theorem OpS.callF {f : FuncId} {args : List AV} {H H' : List (Option AO)} {res : AV} (F : FC P G f args H res H') (old : List Nat) (base : Nat) (hol : old.length = H.length) (hnd : old.Nodup) (hlt : ∀ x ∈ old, x < base)
    {c : Operand} {xs : List Operand} {ys caps : List AV} (ho : xs.length = ys.length) (hwk : WkL (ys ++ caps) (args.map (AV.ren (pi old base)))) {ats : Array TypeId} :
    OpS P G ⟨dst, .call ⟨.value c, xs.toArray, ats⟩, ty, pos, aft, gd⟩ ((c :: xs).zip (.fn (.func f) [] caps :: ys)) (hpl (pi old base) old H) (callEff old base res H.length H') := by
  constructor
  intro A ρ σ a w K Q hG h1 h2 h3 hd hs hK
  obtain ⟨fn, cd, hf, hname, hb⟩ := F.enter
  have hcv := hs.ev h1.1
  obtain ⟨us, hus, hcap, hev⟩ : ∃ us : Array Value, us.size = caps.length ∧ (∀ (i : Nat) (c : AV) (x : Value), caps[i]? = some c → us[i]? = some x → VRel (Nh A σ.h ρ w) ρ w c x) ∧ a.eval c = .func (.func f) #[] us := by
    generalize a.eval c = v at hcv
    cases hcv with
    | fn f' fs cs vs us hs1 k1 hs2 k2 =>
      refine ⟨us, hs2, k2, ?_⟩
      obtain rfl := Array.eq_empty_of_size_eq_zero (by simpa using hs1)
      rfl
  have hrun : (execOp a.eval ⟨dst, .call ⟨.value c, xs.toArray, ats⟩, ty, pos, aft, gd⟩).run P w = .ok (.enter f ((xs.map a.eval).toArray ++ us)) w := by
    have := run_enter hf hname hb ((xs.map a.eval).toArray ++ us) w
    show (do let d ← Deferred.ofValue (a.eval c) (xs.toArray.map a.eval); invoke d.target d.args : Sem Next).run P w = _
    rw [hev]
    show (callFunc f (#[] ++ xs.toArray.map a.eval ++ us)).run P w = _
    simpa using this
  unfold Oper.wp
  rw [hrun, Oper.upon_enter]
  refine (call_sat F hol hnd hlt hG hs h2 h3 hd (vs := (xs.map a.eval).toArray ++ us) (ys := ys ++ caps) (by simp [ho, hus]) ?_ hwk).mono ?_
  · intro i y x hy hx
    by_cases hi : i < ys.length
    · rw [List.getElem?_append_left hi] at hy
      rw [Array.getElem?_append_left (by simp [ho]; exact hi), List.getElem?_toArray, List.getElem?_map] at hx
      cases hxi : xs[i]? with
      | none => rw [hxi] at hx; cases hx
      | some o => rw [hxi] at hx; cases hx; exact ev_ops hs h1.2 i o y hxi hy
    · rw [List.getElem?_append_right (by omega)] at hy
      rw [Array.getElem?_append_right (by simp [ho]; omega)] at hx
      simp only [List.size_toArray, List.length_map, ho] at hx
      exact hcap _ y x hy hx
  · rintro e w' ⟨v, ρ', rfl, hs'⟩
    exact hK _ _ ρ' hs'
end
section
variable {P : Program} {G : List (Nat × Array Value)} {l r : List Oper} {K : AS → Prop} {n : Nat} {s : Nat → Option AV} {h : Nat → Option AO} {u : Nat → Bool} {d : Tmp} {ty : TypeId} {pos : String} {aft : Array Edge} {gd : Option (Nat × Bool)} {D : Bool} {acc : List St}
theorem Ch.mf {fn : Fn} {xs : List Operand} {ys : List AV} (hg : GdOk l.toArray ⟨some d, .makeFunc fn #[] xs.toArray, ty, pos, aft, gd⟩ ⟨n, s, h, u⟩ true) (hev : EvL ⟨n, s, h, u⟩ xs ys) (hd : Nat.blt d n = true)
    (hr : Ch P G l D K (⟨true, xs.zip ys, [], ⟨some (.fn fn [] ys), [], []⟩⟩ :: acc) r ⟨n, upd s d (some (.fn fn [] ys)), h, u⟩) :
    Ch P G l D K acc (⟨some d, .makeFunc fn #[] xs.toArray, ty, pos, aft, gd⟩ :: r) ⟨n, s, h, u⟩ :=
  Ch.pul hg hev (OpS.makeFunc hev.ok.2) hd hr
/-- a call of a closure that only computes -/
theorem Ch.callF {f : FuncId} {args : List AV} {res : AV} (F : FC P G f args [] res []) {c : Operand} {xs : List Operand} {ys caps : List AV} {ats : Array TypeId}
    (hg : GdOk l.toArray ⟨some d, .call ⟨.value c, xs.toArray, ats⟩, ty, pos, aft, gd⟩ ⟨n, s, h, u⟩ true) (hev : EvL ⟨n, s, h, u⟩ (c :: xs) (.fn (.func f) [] caps :: ys)) (hwk : WkL (ys ++ caps) (args.map (AV.ren (pi [] 0)))) {res' : AV} (hres : res.ren (pi [] 0) = res') (hd : Nat.blt d n = true)
    (hr : Ch P G l D K (⟨true, (c :: xs).zip (.fn (.func f) [] caps :: ys), [], ⟨some res', [], []⟩⟩ :: acc) r ⟨n, upd s d (some res'), h, u⟩) :
    Ch P G l D K acc (⟨some d, .call ⟨.value c, xs.toArray, ats⟩, ty, pos, aft, gd⟩ :: r) ⟨n, s, h, u⟩ := by
  subst hres
  have hlen : xs.length = ys.length := by have := hev.ok.2; simpa using this
  exact Ch.cons (st := ⟨true, (c :: xs).zip (.fn (.func f) [] caps :: ys), [], ⟨some (res.ren (pi [] 0)), [], []⟩⟩) ⟨hg, fun _ => ⟨OpS.callF F [] 0 rfl (by simp) (by simp) hlen hwk, hev.ok.1, trivial, trivial, fun t ht => by cases ht; exact Nat.blt_eq.mp hd⟩, fun h => nomatch h⟩ hr
end
/-- an entry is forgotten: its cells are never written again -/
theorem HSat.drop {A : Amb} {ρ : Env} {h : Nat → Option AO} {u : Nat → Bool} {w : World} (H : HSat A ρ h u w) (id : Nat) : HSat A ρ (upd h id none) u w ∧ ∀ av x, VRel (Nh A h ρ w) ρ w av x → VRel (Nh A (upd h id none) ρ w) ρ w av x := by
  have hold : ∀ i ob, upd h id none i = some ob → h i = some ob := fun i ob hi => by
    rcases upd_eq_some hi with ⟨_, he⟩ | ⟨_, he⟩
    · cases he
    · exact he
  exact H.next (w' := w) (ρ' := ρ) (u' := u) rfl rfl rfl (Nat.le_refl _) (fun i hi => ⟨hi, rfl, rfl⟩) H.usedB H.usedT (fun _ _ _ => rfl) (fun _ _ _ => rfl)
    (fun i ob b o hi hw => .inl ⟨i, ob, hold i ob hi, hw⟩) (fun i ob b hi hw => .inl ⟨i, ob, hold i ob hi, hw⟩) (fun i j oi oj b hi hj => H.sep i j oi oj b (hold i oi hi) (hold j oj hj))
    (fun hV i ob hi => (H.heap i ob (hold i ob hi)).keep (Env.le_refl _) hV (fun _ _ => rfl))
/-- what an entry holds, told in other words -/
theorem HSat.recell {A : Amb} {ρ : Env} {h : Nat → Option AO} {u : Nat → Bool} {w : World} (H : HSat A ρ h u w) {id : Nat} {T : TypeId} {cs cs' : List AV} (hid : h id = some (.cells T cs)) (hl : cs'.length ≤ cs.length)
    (hc : ∀ (j : Nat) (c c' : AV) (x : Value), cs[j]? = some c → cs'[j]? = some c' → VRel (Nh A h ρ w) ρ w c x → VRel (Nh A h ρ w) ρ w c' x) :
    HSat A ρ (upd h id (some (.cells T cs'))) u w ∧ ∀ av x, VRel (Nh A h ρ w) ρ w av x → VRel (Nh A (upd h id (some (.cells T cs'))) ρ w) ρ w av x := by
  have hold : ∀ i ob, upd h id (some (.cells T cs')) i = some ob → (i = id ∧ ob = .cells T cs') ∨ (i ≠ id ∧ h i = some ob) := fun i ob hi => by
    rcases upd_eq_some hi with ⟨h1, he⟩ | ⟨h1, he⟩
    · cases he; exact .inl ⟨h1, rfl⟩
    · exact .inr ⟨h1, he⟩
  have old2 : ∀ i ob, upd h id (some (.cells T cs')) i = some ob → ∃ ob', h i = some ob' ∧ (∀ b, ob.at_ ρ i b → ob'.at_ ρ i b) ∧ ∀ b o, ob.wr ρ i b o → ob'.wr ρ i b o := fun i ob hi => by
    rcases hold i ob hi with ⟨rfl, rfl⟩ | ⟨_, he⟩
    · exact ⟨_, hid, fun _ h => h, fun _ _ h => h⟩
    · exact ⟨_, he, fun _ h => h, fun _ _ h => h⟩
  refine H.next (w' := w) (ρ' := ρ) (u' := u) rfl rfl rfl (Nat.le_refl _) (fun i hi => ⟨hi, rfl, rfl⟩) H.usedB H.usedT (fun _ _ _ => rfl) (fun _ _ _ => rfl)
    (fun i ob b o hi hw => by obtain ⟨ob', h1, _, h3⟩ := old2 i ob hi; exact .inl ⟨i, ob', h1, h3 b o hw⟩) (fun i ob b hi hw => by obtain ⟨ob', h1, h2, _⟩ := old2 i ob hi; exact .inl ⟨i, ob', h1, h2 b hw⟩)
    (fun i j oi oj b hi hj h1 h2 => by
      obtain ⟨oi', k1, k2, _⟩ := old2 i oi hi
      obtain ⟨oj', m1, m2, _⟩ := old2 j oj hj
      exact H.sep i j oi' oj' b k1 m1 (k2 b h1) (m2 b h2))
    (fun hV i ob hi => ?_)
  rcases hold i ob hi with ⟨rfl, rfl⟩ | ⟨_, he⟩
  · obtain ⟨b, arr, k1, k2, k3, k4⟩ := H.heap i _ hid
    refine ⟨b, arr, k1, k2, by omega, fun j c' x hc' hx => ?_⟩
    have hj := (List.getElem?_eq_some_iff.1 hc').1
    obtain ⟨c, hcj⟩ : ∃ c, cs[j]? = some c := ⟨_, List.getElem?_eq_getElem (by omega)⟩
    exact ⟨hV _ _ (hc j c c' x hcj hc' (k4 j c x hcj hx).1), (k4 j c x hcj hx).2⟩
  · exact (H.heap i ob he).keep (Env.le_refl _) hV (fun _ _ => rfl)
section
variable {A : Amb} {n : Nat} {s : Nat → Option AV} {h : Nat → Option AO} {u : Nat → Bool}
/-- a variable that nobody writes any more -/
theorem SEnt.frz {t id : Nat} {T : TypeId} {cs : List AV} (hs : s t = some (.ptr id 0)) (hh : h id = some (.cells T cs)) : SEnt A ⟨n, s, h, u⟩ ⟨n, upd s t (some (.sptr cs)), upd h id none, u⟩ := by
  intro ρ a w hst
  obtain ⟨x, hx, hv⟩ := hst.slots t _ hs
  obtain ⟨b', arr, h1, ⟨fz, hmk, h2⟩, h3, h4⟩ := hst.mem.heap id _ hh
  obtain ⟨m1, m2⟩ := hst.mem.drop id
  refine ⟨ρ, m1, fun t' v' ht' => ?_, hst.nt, hst.defers⟩
  rcases upd_eq_some (f := s) ht' with ⟨rfl, he⟩ | ⟨_, he⟩
  · cases he
    cases hv with
    | ptr _ _ b hb =>
      obtain rfl : b = b' := by rw [hb] at h1; exact Option.some.inj h1
      refine ⟨_, hx, .sptr cs b 0 (fun i => arr.getD i undef) (fun i hi => ⟨?_, ?_⟩) (fun i c hc => ?_)⟩
      · have hlt : i < arr.size := by omega
        rw [cell_of_row w b (0 + i) arr T fz h2, Nat.zero_add]
        simp [Array.getD_eq_getD_getElem?, hlt]
      · refine ⟨(Array.getElem?_eq_some_iff.1 h2).1, .inr (hst.mem.own id _ b (0 + i) hh hb), fun i' ob hi' hw => ?_⟩
        rcases upd_eq_some (f := h) hi' with ⟨_, he⟩ | ⟨hne, he⟩
        · cases he
        · exact hne (hst.mem.sep i' id ob _ b he hh (AO.at_of_wr hw) hb)
      · have hi := (List.getElem?_eq_some_iff.1 hc).1
        have hlt : i < arr.size := by omega
        exact m2 _ _ (h4 i c _ hc (by simp [Array.getD_eq_getD_getElem?, hlt])).1
  · obtain ⟨y, hy, hw⟩ := hst.slots t' v' he
    exact ⟨y, hy, m2 _ _ hw⟩
/-- nothing, as a row that may be appended to -/
theorem SEnt.nilTip {t : Nat} (c : Nat) (E : TypeId) (sz : Nat) (hs : s t = some (.v (.slice none 0 0))) (hu : u c = false) : SEnt A ⟨n, s, h, u⟩ ⟨n, upd s t (some (.sl (some c) 0 [])), upd h c (some (.tip E sz 0)), nuU u [c]⟩ := by
  intro ρ a w hst
  let ρ' : Env := ⟨ρ.blk, upd ρ.tip c (some (.slice none 0 0))⟩
  have hid : ρ'.tip c = some (.slice none 0 0) := upd_same _ _ _
  obtain ⟨m1, m2⟩ := hst.mem.extend (ρ' := ρ') (ob := .tip E sz 0) (w' := w) hu (fun i hi => ⟨rfl, upd_ne _ _ hi⟩) rfl rfl rfl (Nat.le_refl _) (fun k hk => rfl) (fun b ⟨cap, hb⟩ => by rw [hid] at hb; cases hb) (fun _ => .inl ⟨hid, rfl⟩)
  refine ⟨ρ', m1, fun t' v' ht' => ?_, hst.nt, hst.defers⟩
  rcases upd_eq_some (f := s) ht' with ⟨rfl, he⟩ | ⟨_, he⟩
  · cases he
    obtain ⟨x, hx, hv⟩ := hst.slots t' _ hs
    rw [hv.raw] at hx
    exact ⟨_, hx, .sl _ _ _ _ _ (fun _ => undef) (fun i hi => by cases hi) (fun i c hc => by simp at hc) (fun k hk => by cases hk; exact hid) (Nat.le_refl _) (fun _ => rfl) (by unfold maxLen; omega)⟩
  · obtain ⟨y, hy, hw⟩ := hst.slots t' v' he
    exact ⟨y, hy, m2 _ _ hw⟩
/-- the same, of nothing that lies in an entry -/
theorem SEnt.nilCell {id off : Nat} {T : TypeId} {cs : List AV} (c : Nat) (E : TypeId) (sz : Nat) (hh : h id = some (.cells T cs)) (hc : cs[off]? = some (.v (.slice none 0 0))) (hu : u c = false) (hne : (Nat.beq c id) = false) :
    SEnt A ⟨n, s, h, u⟩ ⟨n, s, upd (upd h c (some (.tip E sz 0))) id (some (.cells T (cs.set off (.sl (some c) 0 [])))), nuU u [c]⟩ := by
  intro ρ a w hst
  have hne' : id ≠ c := fun e => by subst e; simp at hne
  let ρ' : Env := ⟨ρ.blk, upd ρ.tip c (some (.slice none 0 0))⟩
  have hid : ρ'.tip c = some (.slice none 0 0) := upd_same _ _ _
  obtain ⟨m1, m2⟩ := hst.mem.extend (ρ' := ρ') (ob := .tip E sz 0) (w' := w) hu (fun i hi => ⟨rfl, upd_ne _ _ hi⟩) rfl rfl rfl (Nat.le_refl _) (fun k hk => rfl) (fun b ⟨cap, hb⟩ => by rw [hid] at hb; cases hb) (fun _ => .inl ⟨hid, rfl⟩)
  obtain ⟨k1, k2⟩ := m1.recell (id := id) (T := T) (cs := cs) (cs' := cs.set off (.sl (some c) 0 [])) (by rw [upd_ne _ _ hne']; exact hh) (by simp) (fun j x x' y hx hx' hv => by
    by_cases hj : j = off
    · subst hj
      rw [hc] at hx
      cases hx
      have hlt := (List.getElem?_eq_some_iff.1 hc).1
      rw [List.getElem?_set_self hlt] at hx'
      cases hx'
      rw [hv.raw]
      exact .sl _ _ _ _ _ (fun _ => undef) (fun i hi => by cases hi) (fun i c hc => by simp at hc) (fun k hk => by cases hk; exact hid) (Nat.le_refl _) (fun _ => rfl) (by unfold maxLen; omega)
    · rw [List.getElem?_set_ne (fun e => hj e.symm), hx] at hx'
      cases hx'
      exact hv)
  exact ⟨ρ', k1, fun t' v' ht' => by obtain ⟨y, hy, hw⟩ := hst.slots t' v' ht'; exact ⟨y, hy, k2 _ _ (m2 _ _ hw)⟩, hst.nt, hst.defers⟩
end
end Go.Proofs.Ytjmbendppcildaa.E
end
section
/- Calls of functions that change entries; results with entries. -/
namespace Go.Proofs.Ytjmbendppcildaa.E
open Go Go.RowKit Go.Proofs.Ytjmbendppcildaa.V
@[simp] theorem pi_n (b j : Nat) : pi [] b j = b + j := rfl
@[simp] theorem pi_0 (o : Nat) (os : List Nat) (b : Nat) : pi (o :: os) b 0 = o := rfl
@[simp] theorem pi_s (o : Nat) (os : List Nat) (b j : Nat) : pi (o :: os) b (j + 1) = pi os b j := by
  by_cases h : j < os.length
  · rw [pi_lt (by simp; omega), pi_lt h]; rfl
  · rw [pi_ge (by simp; omega), pi_ge (by omega)]
    simp
@[simp] theorem pi_1 (o : Nat) (os : List Nat) (b : Nat) : pi (o :: os) b 1 = pi os b 0 := pi_s o os b 0
@[simp] theorem pi_2 (o : Nat) (os : List Nat) (b : Nat) : pi (o :: os) b 2 = pi os b 1 := pi_s o os b 1
@[simp] theorem pi_3 (o : Nat) (os : List Nat) (b : Nat) : pi (o :: os) b 3 = pi os b 2 := pi_s o os b 2
@[simp] theorem pi_4 (o : Nat) (os : List Nat) (b : Nat) : pi (o :: os) b 4 = pi os b 3 := pi_s o os b 3
/-- what a call makes of the entries: those that were, then new ones -/
def chOld (π : Nat → Nat) : List Nat → List (Option AO) → List (Nat × Option AO)
  | o :: os, x :: H => (o, x.map (AO.ren π)) :: chOld π os H
  | _, _ => []
def chNew (π : Nat → Nat) : Nat → List (Option AO) → List (Nat × Option AO)
  | b, x :: H => (b, x.map (AO.ren π)) :: chNew π (b + 1) H
  | _, [] => []
def nuNew : Nat → List (Option AO) → List Nat
  | b, _ :: H => b :: nuNew (b + 1) H
  | _, [] => []
theorem chNew_eq (π : Nat → Nat) : ∀ (H : List (Option AO)) (k : Nat) (b : Nat), (∀ j, j < H.length → π (k + j) = b + j) → (List.range H.length).map (fun j => (π (k + j), ((H[j]?).join).map (AO.ren π))) = chNew π b H
  | [], _, _, _ => rfl
  | x :: H, k, b, h => by
    rw [List.length_cons, List.range_succ_eq_map, List.map_cons, List.map_map]
    show _ = (b, _) :: chNew π (b + 1) H
    rw [← chNew_eq π H (k + 1) (b + 1) (fun j hj => by have := h (j + 1) (by simp; omega); rw [show k + 1 + j = k + (j + 1) by omega, this]; omega)]
    have h0 := h 0 (by simp)
    simp only [Nat.add_zero] at h0
    rw [Nat.add_zero, h0]
    congr 1
    refine List.map_congr_left fun j _ => ?_
    show (π (k + (j + 1)), _) = (π (k + 1 + j), _)
    rw [show k + (j + 1) = k + 1 + j by omega]
    rfl
theorem chOld_eq (π : Nat → Nat) : ∀ (old : List Nat) (H : List (Option AO)) (k : Nat), old.length ≤ H.length → (∀ j, j < old.length → π (k + j) = old.getD j 0) → (List.range old.length).map (fun j => (π (k + j), ((H[j]?).join).map (AO.ren π))) = chOld π old H
  | [], H, _, _, _ => by cases H <;> rfl
  | o :: os, [], _, h, _ => by simp at h
  | o :: os, x :: H, k, h, hp => by
    rw [List.length_cons, List.range_succ_eq_map, List.map_cons, List.map_map]
    show _ = (o, _) :: chOld π os H
    rw [← chOld_eq π os H (k + 1) (by simpa using h) (fun j hj => by have := hp (j + 1) (by simp; omega); rw [show k + 1 + j = k + (j + 1) by omega, this]; rfl)]
    have h0 := hp 0 (by simp)
    simp only [Nat.add_zero] at h0
    rw [Nat.add_zero, h0]
    congr 1
    refine List.map_congr_left fun j _ => ?_
    show (π (k + (j + 1)), _) = (π (k + 1 + j), _)
    rw [show k + (j + 1) = k + 1 + j by omega]
    rfl
theorem nuNew_eq : ∀ (H : List (Option AO)) (b : Nat), (List.range H.length).map (b + ·) = nuNew b H
  | [], _ => rfl
  | x :: H, b => by
    rw [List.length_cons, List.range_succ_eq_map, List.map_cons, List.map_map]
    show b :: _ = b :: nuNew (b + 1) H
    rw [← nuNew_eq H (b + 1)]
    congr 1
    exact List.map_congr_left fun j _ => by show b + (j + 1) = b + 1 + j; omega
theorem callEff_eq {old : List Nat} {base : Nat} {res : AV} {m : Nat} {H1 H2 : List (Option AO)} (ho : old.length = m) (h1 : H1.length = m) :
    callEff old base res m (H1 ++ H2) = ⟨some (res.ren (pi old base)), chOld (pi old base) old H1 ++ chNew (pi old base) base H2, nuNew base H2⟩ := by
  unfold callEff
  have e1 : (H1 ++ H2).length = m + H2.length := by simp [h1]
  rw [e1, List.range_add, List.map_append, Nat.add_sub_cancel_left, nuNew_eq H2 base]
  congr 2
  · rw [← chOld_eq (pi old base) old H1 0 (by omega) (fun j hj => by rw [Nat.zero_add]; exact pi_lt hj), ho]
    refine List.map_congr_left fun j hj => ?_
    have hj' : j < m := by simpa using hj
    rw [Nat.zero_add]
    unfold hl
    rw [List.getElem?_append_left (by omega)]
  · rw [List.map_map, ← chNew_eq (pi old base) H2 m base (fun j hj => by rw [pi_ge (by omega)]; omega)]
    refine List.map_congr_left fun j hj => ?_
    show (pi old base (m + j), (hl (H1 ++ H2) (m + j)).map _) = _
    unfold hl
    rw [List.getElem?_append_right (by omega), h1, Nat.add_sub_cancel_left]
section
variable {P : Program} {G : List (Nat × Array Value)} {l r : List Oper} {K : AS → Prop} {n : Nat} {s : Nat → Option AV} {h : Nat → Option AO} {u : Nat → Bool} {d : Tmp} {ty : TypeId} {pos : String} {aft : Array Edge} {gd : Option (Nat × Bool)} {D : Bool} {acc : List St}
/-- a call of a function that changes entries: H1 what becomes of them, H2 the new ones -/
theorem Ch.callH {f : FuncId} {args : List AV} {H H1 H2 : List (Option AO)} {res : AV} (F : FC P G f args H res (H1 ++ H2)) (old : List Nat) (base : Nat) {xs : List Operand} {ys : List AV} {ats : Array TypeId} {res' : AV} {hp' : List (Nat × AO)} {ch' : List (Nat × Option AO)} {nu' : List Nat}
    (hg : GdOk l.toArray ⟨some d, .call ⟨.value (.func f), xs.toArray, ats⟩, ty, pos, aft, gd⟩ ⟨n, s, h, u⟩ true) (hev : EvL ⟨n, s, h, u⟩ xs ys) (hwk : WkL ys (args.map (AV.ren (pi old base)))) (hol : Nat.beq old.length H.length = true) (h1l : Nat.beq H1.length H.length = true) (hnd : old.Nodup) (hlt : ∀ x ∈ old, x < base)
    (hres : res.ren (pi old base) = res') (hhp : hpl (pi old base) old H = hp') (hch : chOld (pi old base) old H1 ++ chNew (pi old base) base H2 = ch') (hnu : nuNew base H2 = nu')
    (h2 : HpOk ⟨n, s, h, u⟩ hp') (h3 : NuOk ⟨n, s, h, u⟩ nu') (hd : Nat.blt d n = true)
    (hr : Ch P G l D K (⟨true, xs.zip ys, hp', ⟨some res', ch', nu'⟩⟩ :: acc) r ⟨n, upd s d (some res'), chs h ch', nuU u nu'⟩) :
    Ch P G l D K acc (⟨some d, .call ⟨.value (.func f), xs.toArray, ats⟩, ty, pos, aft, gd⟩ :: r) ⟨n, s, h, u⟩ := by
  subst hres; subst hhp; subst hch; subst hnu
  have hol' := Nat.eq_of_beq_eq_true hol
  have h1l' := Nat.eq_of_beq_eq_true h1l
  have he := callEff_eq (old := old) (base := base) (res := res) (m := H.length) (H1 := H1) (H2 := H2) hol' h1l'
  have := OpS.call F old base hol' hnd hlt hev.ok.2 hwk (dst := some d) (ats := ats) (ty := ty) (pos := pos) (aft := aft) (gd := gd)
  rw [he] at this
  exact Ch.cons (st := ⟨true, xs.zip ys, hpl (pi old base) old H, ⟨some (res.ren (pi old base)), chOld (pi old base) old H1 ++ chNew (pi old base) base H2, nuNew base H2⟩⟩) ⟨hg, fun _ => ⟨this, hev.ok.1, h2, h3, fun t ht => by cases ht; exact Nat.blt_eq.mp hd⟩, fun h => nomatch h⟩ hr
/-- the same, where nothing comes back -/
theorem Ch.callHN {f : FuncId} {args : List AV} {H H1 H2 : List (Option AO)} {res : AV} (F : FC P G f args H res (H1 ++ H2)) (old : List Nat) (base : Nat) {xs : List Operand} {ys : List AV} {ats : Array TypeId} {hp' : List (Nat × AO)} {ch' : List (Nat × Option AO)} {nu' : List Nat}
    (hg : GdOk l.toArray ⟨none, .call ⟨.value (.func f), xs.toArray, ats⟩, ty, pos, aft, gd⟩ ⟨n, s, h, u⟩ true) (hev : EvL ⟨n, s, h, u⟩ xs ys) (hwk : WkL ys (args.map (AV.ren (pi old base)))) (hol : Nat.beq old.length H.length = true) (h1l : Nat.beq H1.length H.length = true) (hnd : old.Nodup) (hlt : ∀ x ∈ old, x < base)
    (hhp : hpl (pi old base) old H = hp') (hch : chOld (pi old base) old H1 ++ chNew (pi old base) base H2 = ch') (hnu : nuNew base H2 = nu')
    (h2 : HpOk ⟨n, s, h, u⟩ hp') (h3 : NuOk ⟨n, s, h, u⟩ nu')
    (hr : Ch P G l D K (⟨true, xs.zip ys, hp', ⟨some (res.ren (pi old base)), ch', nu'⟩⟩ :: acc) r ⟨n, s, chs h ch', nuU u nu'⟩) :
    Ch P G l D K acc (⟨none, .call ⟨.value (.func f), xs.toArray, ats⟩, ty, pos, aft, gd⟩ :: r) ⟨n, s, h, u⟩ := by
  subst hhp; subst hch; subst hnu
  have hol' := Nat.eq_of_beq_eq_true hol
  have h1l' := Nat.eq_of_beq_eq_true h1l
  have he := callEff_eq (old := old) (base := base) (res := res) (m := H.length) (H1 := H1) (H2 := H2) hol' h1l'
  have := OpS.call F old base hol' hnd hlt hev.ok.2 hwk (dst := none) (ats := ats) (ty := ty) (pos := pos) (aft := aft) (gd := gd)
  rw [he] at this
  exact Ch.cons (st := ⟨true, xs.zip ys, hpl (pi old base) old H, ⟨some (res.ren (pi old base)), chOld (pi old base) old H1 ++ chNew (pi old base) base H2, nuNew base H2⟩⟩) ⟨hg, fun _ => ⟨this, hev.ok.1, h2, h3, fun t ht => by cases ht⟩, fun h => nomatch h⟩ hr
end
theorem FC.split {P : Program} {G : List (Nat × Array Value)} {f : FuncId} {args : List AV} {H H' : List (Option AO)} {res : AV} (F : FC P G f args H res H') : FC P G f args H res (H'.take H.length ++ H'.drop H.length) := by
  rw [List.take_append_drop]; exact F
theorem OpS.quoU {P : Program} {G : List (Nat × Array Value)} {t t' : TypeId} {x y : Operand} {a b : Int} (ha : 0 ≤ a) (ha' : a < 18446744073709551616) (hb : 0 < b) {dst : Option Tmp} {ty : TypeId} {pos : String} {aft : Array Edge} {gd : Option (Nat × Bool)} :
    OpS P G ⟨dst, .binOp .quo t x y t', ty, pos, aft, gd⟩ [(x, .v (.int .u64 a)), (y, .v (.int .u64 b))] [] ⟨some (.v (.int .u64 (a / b))), [], []⟩ := by
  refine OpS.binR rfl fun w => ?_
  simp only [binOp, Op.intDiv]
  rw [if_neg (show ¬ b = 0 by omega), Int.tdiv_eq_ediv_of_nonneg ha, IntKind.wrap_u64]
  have h1 := Int.ediv_nonneg ha (Int.le_of_lt hb)
  have h2 : a / b ≤ a := Int.ediv_le_self b ha
  have : (a / b) % 18446744073709551616 = a / b := by omega
  first | (rw [this]; rfl) | rfl
theorem cv_mod (y : Nat) : Value.int .u8 (IntKind.u8.wrap ((y : Int) % 256)) = .int .u8 (U8 (UInt8.ofNat y)) := by
  rw [IntKind.wrap_u8, u8_ofNat]
  congr 1
  omega
@[simp] theorem nbeq (a b : Nat) : Nat.beq a b = (a == b) := by
  rw [Bool.eq_iff_iff]
  constructor
  · intro h; simpa using Nat.eq_of_beq_eq_true h
  · intro h
    obtain rfl : a = b := by simpa using h
    exact Nat.beq_refl a
theorem AV.wk.tip {π : Nat → Nat} {o o' : Option Nat} {n : Nat} {cs cs' : List AV} (ho : o.map π = o') (hc : AV.renL π cs = cs') : AV.wk (.sl o' n cs') (AV.ren π (.sl o n cs)) := by
  subst ho; subst hc; exact .rfl _
theorem HFromL.skip {π : Nat → Nat} {u : Nat → Bool} {h : Nat → Option AO} {k : Nat} {r : List (Option AO)} (hr : HFromL π u h (k + 1) r) : HFromL π u h k (none :: r) := hr
/-- a row that may be appended to, under a new name -/
theorem SEnt.retip {A : Amb} {n : Nat} {s : Nat → Option AV} {h : Nat → Option AO} {u : Nat → Bool} {t c m sz : Nat} {E : TypeId} {cs : List AV} (c' : Nat) (hs : s t = some (.sl (some c) m cs)) (hh : h c = some (.tip E sz m)) (hu : u c' = false) :
    SEnt A ⟨n, s, h, u⟩ ⟨n, upd s t (some (.sl (some c') m cs)), upd (upd h c none) c' (some (.tip E sz m)), nuU u [c']⟩ := by
  intro ρ a w hst
  let ρ' : Env := ⟨ρ.blk, upd ρ.tip c' (ρ.tip c)⟩
  have hne : ∀ i, u i = true → i ≠ c' := fun i hi e => by subst e; rw [hu] at hi; cases hi
  have hnew : ρ'.tip c' = ρ.tip c := upd_same _ _ _
  have hold : ∀ i, i ≠ c' → ρ'.tip i = ρ.tip i := fun i hi => upd_ne _ _ hi
  have hle : ρ.le ρ' := ⟨fun _ _ h => h, fun i v hv => by rw [hold i (hne i (hst.mem.usedT i v hv))]; exact hv⟩
  have hcase : ∀ i ob, upd (upd h c none) c' (some (AO.tip E sz m)) i = some ob → (i = c' ∧ ob = .tip E sz m) ∨ (i ≠ c' ∧ i ≠ c ∧ h i = some ob) := fun i ob hi => by
    rcases upd_eq_some hi with ⟨h1, h2⟩ | ⟨h1, h2⟩
    · cases h2; exact .inl ⟨h1, rfl⟩
    · rcases upd_eq_some h2 with ⟨_, h4⟩ | ⟨h3, h4⟩
      · cases h4
      · exact .inr ⟨h1, h3, h4⟩
  have hat : ∀ i ob b, upd (upd h c none) c' (some (AO.tip E sz m)) i = some ob → ob.at_ ρ' i b → ∃ j oj, h j = some oj ∧ oj.at_ ρ j b ∧ ((i = c' ∧ j = c) ∨ (i ≠ c' ∧ i ≠ c ∧ j = i)) := fun i ob b hi hb => by
    rcases hcase i ob hi with ⟨rfl, rfl⟩ | ⟨h1, h2, h3⟩
    · obtain ⟨cap, hc⟩ := hb
      rw [hnew] at hc
      exact ⟨c, _, hh, ⟨cap, hc⟩, .inl ⟨rfl, rfl⟩⟩
    · exact ⟨i, ob, h3, (hst.mem.heap i ob h3).at_back hle hb, .inr ⟨h1, h2, rfl⟩⟩
  have hwr : ∀ i ob b o, upd (upd h c none) c' (some (AO.tip E sz m)) i = some ob → ob.wr ρ' i b o → ∃ j oj, h j = some oj ∧ oj.wr ρ j b o := fun i ob b o hi hb => by
    rcases hcase i ob hi with ⟨rfl, rfl⟩ | ⟨h1, h2, h3⟩
    · obtain ⟨cap, hc, ho⟩ := hb
      rw [hnew] at hc
      exact ⟨c, _, hh, cap, hc, ho⟩
    · exact ⟨i, ob, h3, (hst.mem.heap i ob h3).wr_back hle hb⟩
  obtain ⟨m1, m2⟩ := hst.mem.next (ρ' := ρ') (h' := upd (upd h c none) c' (some (.tip E sz m))) (u' := nuU u [c']) (w' := w) rfl rfl rfl (Nat.le_refl _)
    (fun i hi => ⟨by rw [nuU_eq, show u i = true from hi]; rfl, rfl, hold i (hne i hi)⟩) (fun i b hb => by rw [nuU_eq, show u i = true from hst.mem.usedB i b hb]; rfl)
    (fun i v hv => by
      by_cases hi : i = c'
      · rw [nuU_eq, hi]; simp
      · have hv' : ρ'.tip i = some v := hv
        rw [hold i hi] at hv'
        rw [nuU_eq, show u i = true from hst.mem.usedT i v hv']; rfl)
    (fun _ _ _ => rfl) (fun _ _ _ => rfl) (fun i ob b o hi hb => .inl (hwr i ob b o hi hb)) (fun i ob b hi hb => by obtain ⟨j, oj, h1, h2, _⟩ := hat i ob b hi hb; exact .inl ⟨j, oj, h1, h2⟩)
    (fun i j oi oj b hi hj h1 h2 => by
      obtain ⟨i', oi', k1, k2, k3⟩ := hat i oi b hi h1
      obtain ⟨j', oj', l1, l2, l3⟩ := hat j oj b hj h2
      have := hst.mem.sep i' j' oi' oj' b k1 l1 k2 l2
      omega)
    (fun hV i ob hi => by
      rcases hcase i ob hi with ⟨rfl, rfl⟩ | ⟨h1, h2, h3⟩
      · rcases hst.mem.heap c _ hh with ⟨k1, k2⟩ | ⟨g, cap, cur, k1, k2, k3, k4, k5⟩
        · exact .inl ⟨by rw [hnew]; exact k1, k2⟩
        · exact .inr ⟨g, cap, cur, by rw [hnew]; exact k1, k2, k3, k4, k5⟩
      · exact (hst.mem.heap i ob h3).keep hle hV (fun _ _ => rfl))
  refine ⟨ρ', m1, fun t' v' ht' => ?_, hst.nt, hst.defers⟩
  rcases upd_eq_some (f := s) ht' with ⟨rfl, he⟩ | ⟨_, he⟩
  · cases he
    obtain ⟨x, hx, hv⟩ := hst.slots t' _ hs
    refine ⟨x, hx, ?_⟩
    have hv' := m2 _ _ hv
    cases hv with
    | sl o n cs ad cap vals hc hcs ho hn hz hm =>
      have ht := ho c rfl
      cases hv' with
      | sl o n cs ad cap vals' hc' hcs' ho' hn' hz' hm' => exact .sl _ _ _ _ _ vals' hc' hcs' (fun k hk => by cases hk; rw [hnew]; exact ht) hn' hz' hm'
  · obtain ⟨y, hy, hw⟩ := hst.slots t' v' he
    exact ⟨y, hy, m2 _ _ hw⟩
theorem OpS.makeB {P : Program} {G : List (Nat × Array Value)} {dst : Option Tmp} {ty : TypeId} {pos : String} {aft : Array Edge} {gd : Option (Nat × Bool)} {t E : TypeId} {inf : TypeInfo} {z : Value} {x y : Operand} {k k' : IntKind} {m : Int} {n bb : Nat} (id : Nat) (hu : P.underlying t = some (.slice E)) (hi : P.info? E = some inf) (hz : inf.zero = some z) (hsz : inf.size = 1) (hzc : z.cells = #[z]) (h1 : z.oneCell' = true) (hm : m = (n : Int))
    (hbb : inf.bytes = bb) (hb : n * bb ≤ 281474976710656) (hn : n ≤ maxLen) :
    OpS P G ⟨dst, .makeSlice t x y, ty, pos, aft, gd⟩ [(x, .v (.int k m)), (y, .v (.int k' m))] [] ⟨some (.arr id 0 n), [(id, some (.cells E (List.replicate n (.v z))))], [id]⟩ := by
  subst hbb
  exact OpS.make id hu hi hz hsz hzc h1 hm hb hn
/-- plain elements: whole numbers -/
def nA (x : Nat) : AV := .v (.int .i64 (x : Int))
@[simp] theorem renL_n (π : Nat → Nat) (l : List Nat) : AV.renL π (l.map nA) = l.map nA := renL_raw π _ l
@[simp] theorem belL_n (u : Nat → Bool) (l : List Nat) : AV.belL u (l.map nA) := belL_raw u _ l
@[simp] theorem ren_n (π : Nat → Nat) (x : Nat) : AV.ren π (nA x) = nA x := rfl
@[simp] theorem bel_n (u : Nat → Bool) (x : Nat) : AV.bel u (nA x) := trivial
attribute [simp] nA chOld chNew nuNew hpl
end Go.Proofs.Ytjmbendppcildaa.E
end
section
/- Facts on this translation's types, and append onto a row of bytes. -/
namespace Go.Proofs.Ytjmbendppcildaa.V
open Go Go.RowKit

theorem u8info : (Try.prog.info? 5).map (fun i => (i.zero, i.size, i.bytes)) = some (some (.int .u8 0), 1, 1) := by kernel_rfl
theorem u32size : (Try.prog.info? 85).map (·.size) = some 1 := by kernel_rfl
def obytes (w : World) (base : Nat) (v : Value) (l : List UInt8) : Prop := w.ownsRow base 5 1 v l.length (bvs l)
theorem obytes_nil (w : World) (base : Nat) : obytes w base (.slice none 0 0) [] := World.ownsRow_nil w base _ 1
theorem obytes.kept {w w' : World} {base : Nat} {v : Value} {l : List UInt8} (h : obytes w base v l) {S : List Nat} (hf : Fr S w w') (hS : ∀ k, v.ownBlock = some k → k ∉ S) : obytes w' base v l := hf.own h hS

theorem Src.new {w : World} (tx e' : TypeId) (hk : Try.prog.underlying tx = some (.slice e')) (cs : Array Value) (e : TypeId) (h1 : ∀ u ∈ cs.toList, u.oneCell' = true) :
    Src Try.prog 1 tx (.slice (some ⟨w.heap.size, 0, none⟩) cs.size cs.size) cs.size cs.toList (w.alloc (.cells cs e)) := by
  refine Src.ofSlice _ hk ⟨w.heap.size, 0, none⟩ cs.size cs.size cs.toList (by simp) ?_ h1
  intro j u hu
  have hadd : (⟨w.heap.size, 0, none⟩ : Addr).add j = ⟨w.heap.size, j, none⟩ := by unfold Addr.add; split <;> simp_all
  rw [hadd, World.cell?_alloc_at _ _ _ _ rfl]
  simpa using hu

theorem obytes.src {w : World} {base : Nat} {v : Value} {l : List UInt8} (h : obytes w base v l) : Src Try.prog 1 42 v l.length (bvs l) w := by
  rcases h.2 with ⟨rfl, h0⟩ | ⟨g, cap, cur, rfl, hbg, hg, hnc, hcm, hcs, htake⟩
  · obtain rfl : l = [] := List.eq_nil_of_length_eq_zero h0
    exact Src.ofNil w Try.underlying42 0
  · exact Src.ofSlice w Try.underlying42 ⟨g, 0, none⟩ l.length cap (bvs l) (by simp [bvs_length]) (World.ownsRow.cells h (g := g) rfl) (bvs_one l)
theorem obytes.lt {w : World} {base : Nat} {v : Value} {l : List UInt8} (h : obytes w base v l) : ∀ k, v.ownBlock = some k → base ≤ k ∧ k < w.heap.size := World.ownsRow.lt h
theorem obytes.slice {w : World} {base : Nat} {v : Value} {l : List UInt8} (h : obytes w base v l) : ∃ g cap, v = .slice g l.length cap := by
  rcases h.2 with ⟨hv, h0⟩ | ⟨g, cap, cur, hv, _⟩
  · exact ⟨_, _, by rw [h0]; exact hv⟩
  · exact ⟨_, _, hv⟩

theorem obytes.text {w : World} {base : Nat} {v : Value} {l : List UInt8} (h : obytes w base v l) : (convert 42 9 v).run Try.prog w = .ok (.string (B l)) w := by
  rcases h.2 with ⟨rfl, h0⟩ | ⟨g, cap, cur, rfl, hbg, hg, hnc, hcm, hcs, htake⟩
  · obtain rfl : l = [] := List.eq_nil_of_length_eq_zero h0
    exact run_b2s_nil w _ _ 5 Try.underlying42 Try.underlying5 Try.underlying9 0 0
  · exact run_b2s w _ _ 5 Try.underlying42 Try.underlying5 Try.underlying9 ⟨g, 0, none⟩ cap l (World.ownsRow.cells h (g := g) rfl)

theorem wpList_ap_bytes {ops : Array Oper} {rest : List Oper} {o : Oper} {a : Act} {Q : Exit → Act → World → Prop} {w : World} (hgd : o.guard = none) (s x : Operand) (tx : TypeId)
    (ho : o.op = .call { callee := .builtin .append, args := #[s, x], argTypes := #[42, tx] })
    (base : Nat) (v : Value) (l : List UInt8) (hv : a.eval s = v) (hown : obytes w base v l) (xv : Value) (m : List UInt8) (n : Nat) (hx : a.eval x = xv) (hs : Src Try.prog 1 tx xv n (bvs m) w)
    (hb : l.length + m.length ≤ 140737488355328) (hbase : base ≤ w.heap.size)
    (h : ∀ v' w', obytes w' base v' (l ++ m) → w.grownBy w' v.ownBlock → (v'.ownBlock = v.ownBlock ∨ v'.ownBlock = some w.heap.size) → wpList Try.prog ops Q rest (a.put o.dst v') w') : wpList Try.prog ops Q (o :: rest) a w := by
  obtain ⟨i, hi, hz, hs1, hb1⟩ := info_parts u8info
  have hn : n = m.length := by have := hs.newsLen; rw [bvs_length] at this; omega
  subst hn
  refine wpList_plain hgd fun K hK => wp_append_any w s x 42 tx ho base 5 i (.int .u8 0) 1 1 Try.underlying42 hi hz hs1 hb1 rfl (by decide) v l.length (bvs l) hv hown xv m.length (bvs m) hx hs
    (by unfold maxLen; omega) (by omega) hbase ?_
  intro v' w' h1 h2 h3
  refine hK _ _ (h v' w' ?_ h2 h3)
  unfold obytes
  rw [List.length_append, bvs_append]
  exact h1
theorem bvs_zeros (m : Nat) : bvs (List.replicate m 0) = List.replicate m (.int .u8 0) := by simp [bvs, bv, U8]
theorem wpList_ap_zeros {ops : Array Oper} {rest : List Oper} {o : Oper} {a : Act} {Q : Exit → Act → World → Prop} {w : World} (hgd : o.guard = none) (s x : Operand)
    (ho : o.op = .call { callee := .builtin .append, args := #[s, x], argTypes := #[42, 3] })
    (base : Nat) (v : Value) (l : List UInt8) (hv : a.eval s = v) (hown : obytes w base v l) (m : Nat) (hx : a.eval x = .int .i64 (m : Int))
    (hb : l.length + m ≤ 140737488355328) (hbase : base ≤ w.heap.size)
    (h : ∀ v' w', obytes w' base v' (l ++ List.replicate m 0) → w.grownBy w' v.ownBlock → (v'.ownBlock = v.ownBlock ∨ v'.ownBlock = some w.heap.size) → wpList Try.prog ops Q rest (a.put o.dst v') w') : wpList Try.prog ops Q (o :: rest) a w := by
  obtain ⟨i, hi, hz, hs1, hb1⟩ := info_parts u8info
  refine wpList_plain hgd fun K hK => wp_append_zeros s x 42 3 ho base 5 .i64 i (.int .u8 0) 1 Try.underlying42 Try.underlying3 hi hz hs1 hb1 rfl rfl v l.length (bvs l) hv hown m hx
    (by unfold maxLen; omega) (by omega) hbase ?_
  intro v' w' h1 h2 h3
  refine hK _ _ (h v' w' ?_ h2 h3)
  unfold obytes
  rw [List.length_append, bvs_append, bvs_zeros, List.length_replicate]
  exact h1
end Go.Proofs.Ytjmbendppcildaa.V
end
section
/- A number as so many bytes, the highest first. No program in sight. -/
namespace Go.Proofs.Ytjmbendppcildaa.V
def beP (x : UInt64) (size m : Nat) : List UInt8 := (List.range m).map fun j => UInt8.ofNat (x.toNat / 256 ^ (size - 1 - j))
def beS (x : UInt64) (size : Nat) : List UInt8 := beP x size size
theorem beP_length (x : UInt64) (size m : Nat) : (beP x size m).length = m := by simp [beP]
theorem beS_length (x : UInt64) (size : Nat) : (beS x size).length = size := beP_length _ _ _
theorem beP_0 (x : UInt64) (size : Nat) : beP x size 0 = [] := rfl
theorem beP_succ (x : UInt64) (size m : Nat) : beP x size (m + 1) = beP x size m ++ [UInt8.ofNat (x.toNat / 256 ^ (size - 1 - m))] := by simp [beP, List.range_succ]
theorem beS_cons (x : UInt64) (m : Nat) : beS x (m + 1) = UInt8.ofNat (x.toNat / 256 ^ m) :: beS x m := by
  unfold beS beP
  rw [List.range_succ_eq_map, List.map_cons, List.map_map]
  simp only [Nat.add_sub_cancel, Nat.sub_zero]
  congr 1
  refine List.map_congr_left fun j hj => ?_
  have : j < m := by simpa using hj
  show UInt8.ofNat (x.toNat / 256 ^ (m - (j + 1))) = _
  rw [show m - (j + 1) = m - 1 - j by omega]
theorem sh8 (x : UInt64) (q : Nat) : (shr64 x (8 * q)).toUInt8 = UInt8.ofNat (x.toNat / 256 ^ q) := by
  apply UInt8.toNat_inj.1
  have h : (2 : Nat) ^ (8 * q) = 256 ^ q := by rw [Nat.pow_mul]
  have hx := x.toNat_lt
  have hd : x.toNat / 256 ^ q ≤ x.toNat := Nat.div_le_self _ _
  simp only [shr64, h, UInt64.toNat_toUInt8, UInt64.toNat_ofNat', UInt8.toNat_ofNat']
  omega
/-- noughts, then the last m bytes -/
def rowN (x : UInt64) (many m : Nat) : List UInt8 := List.replicate (many - m) 0 ++ beS x m
theorem rowN_0 (x : UInt64) (many : Nat) : rowN x many 0 = List.replicate many 0 := by simp [rowN, beS, beP]
theorem rowN_all (x : UInt64) (many : Nat) : rowN x many many = beS x many := by simp [rowN]
theorem rowN_length (x : UInt64) (many m : Nat) (h : m ≤ many) : (rowN x many m).length = many := by simp [rowN, beS_length]; omega
theorem rowN_set (x : UInt64) (many m : Nat) (h : m < many) : (rowN x many m).set (many - 1 - m) (UInt8.ofNat (x.toNat / 256 ^ m)) = rowN x many (m + 1) := by
  unfold rowN
  rw [beS_cons]
  obtain ⟨k, hk⟩ : ∃ k, many - m = k + 1 := ⟨many - m - 1, by omega⟩
  rw [hk, show many - (m + 1) = k by omega, show many - 1 - m = k by omega, List.replicate_succ']
  rw [List.append_assoc, List.set_append_right _ _ (by simp)]
  simp
end Go.Proofs.Ytjmbendppcildaa.V
end
section
/- Layer 2's writer, by abstract steps; the document's own. -/
namespace Go.Proofs.Ytjmbendppcildaa.E
open Go Go.RowKit Go.Proofs.Ytjmbendppcildaa.V
attribute [local go_sem] B_size B_append B_extract mk_B B_toList take_drop_len List.length_drop List.length_take sgn32 sgn64 add32 sub32 mul32 add64 sub64 mul64 mul64_8 and32 or32 xor32 and64 or64 xor64 shl32_run shr32_run shl64_run shr64_run not32 not32' xor32_all w_u32_u8 w_u64_u8 w_i64_u8 w_u8_u32 w_u8_u64 w_u32_u64 w_u64_u32 w_u8_u8 w_u32_u32 w_u64_u64
attribute [local go_sem ↓] run_index_B' add32 sub32 mul32 add64 sub64 mul64 mul64_8 and32 or32 xor32 and64 or64 xor64 shl32_run shr32_run shl64_run shr64_run not32 not32' xor32_all w_u32_u8 w_u64_u8 w_i64_u8 w_u8_u32 w_u8_u64 w_u32_u64 w_u64_u32 w_u8_u8 w_u32_u32 w_u64_u64 w_u64_nat w_u32_nat w_u8_nat
set_option maxRecDepth 4000
theorem lay_fc {G : List (Nat × Array Value)} (l : List UInt8) (x : UInt64) (size : Nat) (hs0 : 0 < size) (hs : size ≤ 8) (hl : l.length ≤ 70368744177664) :
    FC Try.prog G 52 [.sl (some 0) l.length (l.map bA), .v (.int .u64 (U64 x)), .v (.int .i64 (size : Int))] [some (.tip 5 1 l.length)] (.sl (some 1) (l.length + size) ((l ++ beS x size).map bA)) [none, some (.tip 5 1 (l.length + size))] := by
  refine FC.of_wp [6] Try.func52 rfl rfl rfl rfl ⟨⟨fun k hk => by cases hk; rfl, belL_b _ _⟩, trivial, trivial, trivial⟩ ⟨trivial, trivial⟩ (by exact Nat.le_of_ble_eq_true rfl) ?_
  intro A hG hnA hAB
  unfold start
  refine WP.from (SEnt.retip (t := 0) (c := 0) 1 rfl rfl rfl) ?_
  refine WP.rs hG ?_
  refine Ch.pu gdN (by exact ⟨rfl, trivial⟩) (OpS.assign) trivial rfl ?_
  refine Ch.nil ?_
  refine WP.seq ?_
  refine WP.rs hG ?_
  refine Ch.pu gdN (by exact ⟨rfl, trivial⟩) (OpS.move) trivial rfl ?_
  refine Ch.pu gdN (by exact ⟨rfl, rfl, trivial⟩) (OpS.int rfl (by first | exact wr64 (by omega) | exact rfl)) trivial rfl ?_
  refine Ch.pu gdN (by exact ⟨rfl, rfl, trivial⟩) (OpS.int rfl (by first | exact wr64 (by omega) | exact rfl)) trivial rfl ?_
  refine Ch.pu gdN (by exact ⟨rfl, trivial⟩) (OpS.assign) trivial rfl ?_
  refine Ch.nil ?_
  refine WP.block ?_
  refine WP.loop (fun k σ => ∃ (m : Nat) (at' : Int), (m + k = size ∧ at' = 8 * ((size : Int) - 1 - (m : Int))) ∧ σ = ⟨23, ls [(0, .sl (some 1) (l.length + m) ((l ++ beP x size m).map bA)), (1, .v (.int .u64 (U64 x))), (7, .v (.int .i64 at'))], lh [(1, .tip 5 1 (l.length + m))], blt 2⟩) (size) (Ent.of [] ?_ ?_ ?_ ?_).se ⟨0, 8 * ((size : Int) - 1), ⟨by omega, by omega⟩, rfl⟩ ?_
  · exact (fun i hi => by rw [hnA] at hi; simp only [List.length_cons, List.length_nil] at hi ⊢; first | exact absurd hi (Nat.not_lt_zero _) | (revert i; decide))
  · (repeat (first | exact trivial | (refine And.intro ⟨(by first | trivial | (simp; first | done | fail) | exact ⟨trivial, hbel _⟩), _, rfl, (by first | exact .rfl _ | exact .nil | exact .of_eq (by simp [beP_0]; first | done | fail) | exact AV.wk.sh (by simp [beP_0]; first | done | fail) | exact .untip _ _ _)⟩ ?_)))
  · (repeat (first | exact trivial | (refine And.intro ⟨rfl, (by first | trivial | (simp; first | done | fail) | exact ⟨trivial, hbel _⟩), (by first | rfl | (simp [beP_0]; first | done | fail))⟩ ?_)))
  · simp [rn]
  · rintro k σ ⟨m, at', ⟨hm, hat⟩, rfl⟩
    have hbs := beP_succ x size m
    have hbl := beP_length x size m
    have hsh := sh8 x (size - 1 - m)
    refine WP.seq ?_
    refine WP.rs hG ?_
    refine Ch.pu gdN (by exact ⟨rfl, trivial⟩) (OpS.move) trivial rfl ?_
    refine Ch.pu gdN (by exact ⟨rfl, rfl, trivial⟩) (OpS.int rfl (by first | exact wr64 (by omega) | exact rfl)) trivial rfl ?_
    refine Ch.nil ?_
    refine WP.cond rfl ?_ ?_
    · intro ht
      have ht' := of_decide_eq_true ht
      refine WP.skip ?_
      refine WP.seq ?_
      refine WP.block ?_
      refine WP.rg hG ?_
      refine Ch.pu gdN (by exact ⟨rfl, trivial⟩) (OpS.move) trivial rfl ?_
      refine Ch.pu gdN (by exact ⟨rfl, trivial⟩) (OpS.move) trivial rfl ?_
      refine Ch.pu gdN (by exact ⟨rfl, trivial⟩) (OpS.move) trivial rfl ?_
      refine Ch.pu gdN (by exact ⟨rfl, rfl, trivial⟩) (OpS.shr_u64 (j := 8 * (size - 1 - m)) (by omega) (by omega)) (by first | exact trivial | exact ⟨rfl, trivial⟩) rfl ?_
      refine Ch.pu gdN (by exact ⟨rfl, trivial⟩) (OpS.conv rfl rfl (by first | exact cv_u32_u8 _ | exact cv_u64_u8 _ | exact cv_i64_u8 _ | exact cv_u8_u32 _ | exact cv_u8_u64 _ | exact cv_u32_u64 _ | exact cv_u64_u32 _ | exact cv_u8_u8 _ | exact cv_u32_u32 _ | exact cv_u64_u64 _ | exact wr64 (by omega) | exact cv_u64_nat _ | exact cv_u32_nat _ | exact cv_u8_nat _ | exact rfl)) trivial rfl ?_
      refine Ch.pup gdN (by repeat (first | exact EvP.nil | (apply EvP.cons; exact rfl))) (OpS.slice1 rfl rfl rfl rfl rfl rfl (by rfl) rfl (by rfl)) rfl ?_
      refine Ch.al gdN (by exact ⟨rfl, rfl, trivial⟩) (OpS.append (sz := 1) (bb := 1) 2 rfl rfl rfl rfl rfl (by decide) (SrcA.sl rfl (by simp)) (by first | (simp; done) | (simp; assumption)) (by simp) (by unfold maxLen; omega) rfl (by omega)) (by first | exact trivial | exact ⟨rfl, trivial⟩) (by first | exact trivial | exact ⟨rfl, trivial⟩ | exact ⟨rfl, rfl, trivial⟩) rfl ?_
      refine Ch.pu gdN (by exact ⟨rfl, trivial⟩) (OpS.assign) trivial rfl ?_
      refine Ch.nil ?_
      refine WP.rg hG ?_
      refine Ch.pu gdN (by exact ⟨rfl, trivial⟩) (OpS.move) trivial rfl ?_
      refine Ch.pu gdN (by exact ⟨rfl, rfl, trivial⟩) (OpS.int rfl (by first | exact wr64 (by omega) | exact rfl)) trivial rfl ?_
      refine Ch.pu gdN (by exact ⟨rfl, trivial⟩) (OpS.assign) trivial rfl ?_
      refine Ch.nil ?_
      refine ⟨k - 1, _, by omega, (Ent.of [0, 2] ?_ ?_ ?_ ?_).se, m + 1, at' - 8, ⟨by omega, by omega⟩, rfl⟩
      · exact (fun i hi => by rw [hnA] at hi; simp only [List.length_cons, List.length_nil] at hi ⊢; first | exact absurd hi (Nat.not_lt_zero _) | (revert i; decide))
      · (repeat (first | exact trivial | (refine And.intro ⟨(by first | trivial | (simp; first | done | fail) | exact ⟨trivial, hbel _⟩), _, rfl, (by first | exact .rfl _ | exact .nil | exact .of_eq (by simp [hbs, hsh, Nat.add_assoc]; first | done | fail) | exact AV.wk.sh (by simp [hbs, hsh, Nat.add_assoc]; first | done | fail) | exact .untip _ _ _)⟩ ?_)))
      · (repeat (first | exact trivial | (refine And.intro ⟨rfl, (by first | trivial | (simp; first | done | fail) | exact ⟨trivial, hbel _⟩), (by first | rfl | (simp [hbs, hsh, Nat.add_assoc]; first | done | fail))⟩ ?_)))
      · simp [rn]
    · intro ht
      have ht' := of_decide_eq_false ht
      obtain rfl : m = size := by omega
      refine WP.exit ?_
      refine WP.rs hG ?_
      refine Ch.pu gdN (by exact ⟨rfl, trivial⟩) (OpS.move) trivial rfl ?_
      refine Ch.pu gdN (by exact ⟨rfl, trivial⟩) (OpS.assign) trivial rfl ?_
      refine Ch.nil ?_
      refine WP.ret ?_
      refine (Ret.of (rs := [6]) (vs := [.sl (some 1) (l.length + m) ((l ++ beS x m).map bA)]) (H' := [none, some (.tip 5 1 (l.length + m))]) (res := .sl (some 1) (l.length + m) ((l ++ beS x m).map bA)) [0, 1] ?_ ?_ rfl ?_ (by simp only [List.length_cons, List.length_nil]; decide) ?_).1
      · exact (fun i hi => by rw [hnA] at hi; simp only [List.length_cons, List.length_nil] at hi ⊢; first | exact absurd hi (Nat.not_lt_zero _) | (revert i; decide))
      · (repeat (first | exact trivial | (refine And.intro ⟨(by first | trivial | (simp; first | done | fail) | exact ⟨trivial, hbel _⟩), _, rfl, (by first | exact .rfl _ | exact .nil | exact .of_eq (by simp [beS]; first | done | fail) | exact AV.wk.sh (by simp [beS]; first | done | fail) | exact .untip _ _ _)⟩ ?_)))
      · (repeat (first | exact trivial | refine HFromL.skip ?_ | (refine And.intro ⟨(by first | trivial | (simp; first | done | fail) | exact ⟨trivial, hbel _⟩), (by first | rfl | (simp [beS]; first | done | fail) | (conv => rhs; simp only [AO.ren, AV.ren, AV.renL, Option.map_some, beS]) <;> rfl)⟩ ?_)))
      · rfl

/-- a writer that holds these bytes: an entry, and the row -/
abbrev wrH (l : List UInt8) : List (Option AO) := [some (.cells 95 [.sl (some 1) l.length (l.map bA)]), some (.tip 5 1 l.length)]
theorem newWriter_fc0 {G : List (Nat × Array Value)} : FC Try.prog G 41 [] [] (.ptr 0 0) [some (.cells 95 [.v (.slice none 0 0)])] := by
  refine FC.of_wp [0] Try.func41 rfl rfl rfl rfl (by first | trivial | (simp; first | done | fail) | exact ⟨trivial, hbel _⟩) (by first | trivial | (simp; first | done | fail) | exact ⟨trivial, hbel _⟩) (by exact Nat.le_of_ble_eq_true rfl) ?_
  intro A hG hnA hAB
  unfold start
  refine WP.rs hG ?_
  refine Ch.pu gdN (by exact ⟨rfl, trivial⟩) (OpS.assign) trivial rfl ?_
  refine Ch.nil ?_
  refine WP.rs hG ?_
  refine Ch.pup gdN (by repeat (first | exact EvP.nil | (apply EvP.cons; exact rfl))) (OpS.build (cs := [.v (.slice none 0 0)]) rfl rfl rfl rfl rfl (by rfl)) rfl ?_
  refine Ch.al gdN (by exact ⟨rfl, trivial⟩) (OpS.box 0 rfl) (by first | exact trivial | exact ⟨rfl, trivial⟩) (by first | exact trivial | exact ⟨rfl, trivial⟩ | exact ⟨rfl, rfl, trivial⟩) rfl ?_
  refine Ch.pu gdN (by exact ⟨rfl, trivial⟩) (OpS.assign) trivial rfl ?_
  refine Ch.nil ?_
  refine WP.ret ?_
  refine (Ret.of (rs := [0]) (vs := [.ptr 0 0]) (H' := [some (.cells 95 [.v (.slice none 0 0)])]) (res := .ptr 0 0) [0] ?_ ?_ rfl ?_ (by simp only [List.length_cons, List.length_nil]; decide) ?_).1
  · exact (fun i hi => by rw [hnA] at hi; simp only [List.length_cons, List.length_nil] at hi ⊢; first | exact absurd hi (Nat.not_lt_zero _) | (revert i; decide))
  · (repeat (first | exact trivial | (refine And.intro ⟨(by first | trivial | (simp; first | done | fail) | exact ⟨trivial, hbel _⟩), _, rfl, (by first | exact .rfl _ | exact .nil | exact .of_eq (by simp; first | done | fail) | exact AV.wk.sh (by simp; first | done | fail) | exact .untip _ _ _)⟩ ?_)))
  · (repeat (first | exact trivial | refine HFromL.skip ?_ | (refine And.intro ⟨(by first | trivial | (simp; first | done | fail) | exact ⟨trivial, hbel _⟩), (by first | rfl | (simp; first | done | fail))⟩ ?_)))
  · rfl
theorem newWriter_fc {G : List (Nat × Array Value)} : FC Try.prog G 41 [] [] (.ptr 0 0) (wrH []) :=
  newWriter_fc0.conv (Nat.zero_le _) fun A hA _ _ => by
    refine (SEnt.nilCell (id := 0) (off := 0) 1 5 1 rfl rfl rfl rfl).trans (Ent.se (π := rn []) ⟨rfl, fun i hi => ?_, fun t v ht => ?_, fun i o hi => ?_, fun i j oi oj _ _ h => h⟩)
    · rw [hA] at hi; exact absurd hi (Nat.not_lt_zero _)
    · have hm := ls_some ht
      simp only [List.mem_singleton, Prod.mk.injEq] at hm
      obtain ⟨rfl, rfl⟩ := hm
      exact ⟨rfl, _, rfl, .rfl _⟩
    · match i, hi with
      | 0, hi => cases hi; exact ⟨rfl, ⟨⟨fun k hk => by cases hk; rfl, trivial⟩, trivial⟩, rfl⟩
      | 1, hi => cases hi; exact ⟨rfl, trivial, rfl⟩
      | _ + 2, hi => cases hi
theorem wNum_fc {G : List (Nat × Array Value)} (l : List UInt8) (x : UInt64) (hl : l.length ≤ 70368744177664) :
    FC Try.prog G 42 [.ptr 0 0, .v (.int .u64 (U64 x))] (wrH l) (.tup []) [some (.cells 95 [.sl (some 2) (l ++ beS x 8).length ((l ++ beS x 8).map bA)]), none, some (.tip 5 1 (l ++ beS x 8).length)] := by
  have hbl := beS_length x 8
  refine FC.of_wp [] Try.func42 rfl rfl rfl rfl ⟨rfl, trivial, trivial⟩ ⟨⟨⟨fun k hk => by cases hk; rfl, belL_b _ _⟩, trivial⟩, trivial, trivial⟩ (by exact Nat.le_of_ble_eq_true rfl) ?_
  intro A hG hnA hAB
  unfold start
  refine WP.rg hG ?_
  refine Ch.pu gdN (by exact ⟨rfl, trivial⟩) (OpS.move) trivial rfl ?_
  refine Ch.pu gdN (by exact ⟨rfl, trivial⟩) (OpS.move) trivial rfl ?_
  refine Ch.pu gdN (by exact ⟨rfl, trivial⟩) (OpS.nilCheckP) (by first | exact trivial | exact ⟨rfl, trivial⟩) rfl ?_
  refine Ch.pu gdN (by exact ⟨rfl, trivial⟩) (OpS.fieldAddr rfl rfl rfl rfl) (by first | exact trivial | exact ⟨rfl, trivial⟩) rfl ?_
  refine Ch.pu gdN (by exact ⟨rfl, trivial⟩) (OpS.loadP rfl rfl rfl) (by first | exact trivial | exact ⟨rfl, trivial⟩) rfl ?_
  refine Ch.pu gdN (by exact ⟨rfl, trivial⟩) (OpS.move) trivial rfl ?_
  refine Ch.callH (FC.split (lay_fc l x 8 (by decide) (by decide) hl)) [1] 2 gdN (by repeat (first | exact EvL.nil | (apply EvL.cons; exact rfl))) (by exact (And.intro (by first | exact .rfl _ | exact .untip _ _ _ | exact .nil | exact .func _ | exact AV.wk.sh (renL_s _ _) | exact AV.wk.tip rfl (by first | exact renL_b _ _ | exact renL_s _ _ | exact renL_i _ _ | exact renL_w _ _) | exact AV.wk.sh (by simp; first | done | fail)) (And.intro (by first | exact .rfl _ | exact .untip _ _ _ | exact .nil | exact .func _ | exact AV.wk.sh (renL_s _ _) | exact AV.wk.tip rfl (by first | exact renL_b _ _ | exact renL_s _ _ | exact renL_i _ _ | exact renL_w _ _) | exact AV.wk.sh (by simp; first | done | fail)) (And.intro (by first | exact .rfl _ | exact .untip _ _ _ | exact .nil | exact .func _ | exact AV.wk.sh (renL_s _ _) | exact AV.wk.tip rfl (by first | exact renL_b _ _ | exact renL_s _ _ | exact renL_i _ _ | exact renL_w _ _) | exact AV.wk.sh (by simp; first | done | fail)) trivial)))) rfl rfl (by decide) (by decide) (by first | ((conv => lhs; simp only [AV.ren, AV.renL, AO.ren, renL_b, renL_s, renL_w, renL_i, renL_append, ren_b, ren_s, ren_w, ren_i, pi_n, pi_0, pi_s, pi_1, pi_2, pi_3, pi_4, chOld, chNew, nuNew, hpl, Option.map_some, Option.map_none, List.length_cons, List.length_nil, List.take_succ_cons, List.take_zero, List.take_nil, List.drop_succ_cons, List.drop_zero, List.drop_nil, List.cons_append, List.nil_append, Nat.zero_add, Nat.add_zero, Nat.reduceAdd]); all_goals rfl) | rfl) (by first | ((conv => lhs; simp only [AV.ren, AV.renL, AO.ren, renL_b, renL_s, renL_w, renL_i, renL_append, ren_b, ren_s, ren_w, ren_i, pi_n, pi_0, pi_s, pi_1, pi_2, pi_3, pi_4, chOld, chNew, nuNew, hpl, Option.map_some, Option.map_none, List.length_cons, List.length_nil, List.take_succ_cons, List.take_zero, List.take_nil, List.drop_succ_cons, List.drop_zero, List.drop_nil, List.cons_append, List.nil_append, Nat.zero_add, Nat.add_zero, Nat.reduceAdd]); all_goals rfl) | rfl) (by first | ((conv => lhs; simp only [AV.ren, AV.renL, AO.ren, renL_b, renL_s, renL_w, renL_i, renL_append, ren_b, ren_s, ren_w, ren_i, pi_n, pi_0, pi_s, pi_1, pi_2, pi_3, pi_4, chOld, chNew, nuNew, hpl, Option.map_some, Option.map_none, List.length_cons, List.length_nil, List.take_succ_cons, List.take_zero, List.take_nil, List.drop_succ_cons, List.drop_zero, List.drop_nil, List.cons_append, List.nil_append, Nat.zero_add, Nat.add_zero, Nat.reduceAdd]); all_goals rfl) | rfl) (by first | ((conv => lhs; simp only [AV.ren, AV.renL, AO.ren, renL_b, renL_s, renL_w, renL_i, renL_append, ren_b, ren_s, ren_w, ren_i, pi_n, pi_0, pi_s, pi_1, pi_2, pi_3, pi_4, chOld, chNew, nuNew, hpl, Option.map_some, Option.map_none, List.length_cons, List.length_nil, List.take_succ_cons, List.take_zero, List.take_nil, List.drop_succ_cons, List.drop_zero, List.drop_nil, List.cons_append, List.nil_append, Nat.zero_add, Nat.add_zero, Nat.reduceAdd]); all_goals rfl) | rfl) (by first | exact trivial | exact ⟨rfl, trivial⟩ | exact ⟨rfl, rfl, trivial⟩ | exact ⟨rfl, rfl, rfl, trivial⟩ | exact ⟨rfl, rfl, rfl, rfl, trivial⟩) (by first | exact trivial | exact ⟨rfl, trivial⟩ | exact ⟨rfl, rfl, trivial⟩ | exact ⟨rfl, rfl, rfl, trivial⟩ | exact ⟨rfl, rfl, rfl, rfl, trivial⟩) rfl ?_
  refine Ch.pu gdN (by exact ⟨rfl, trivial⟩) (OpS.nilCheckP) (by first | exact trivial | exact ⟨rfl, trivial⟩) rfl ?_
  refine Ch.pu gdN (by exact ⟨rfl, trivial⟩) (OpS.fieldAddr rfl rfl rfl rfl) (by first | exact trivial | exact ⟨rfl, trivial⟩) rfl ?_
  refine Ch.wr gdN (by exact ⟨rfl, rfl, trivial⟩) (OpS.storeP (cs := [.sl (some 1) l.length (l.map bA)]) rfl rfl rfl (by simp)) (by first | exact trivial | exact ⟨rfl, trivial⟩) (by first | exact trivial | exact ⟨rfl, trivial⟩ | exact ⟨rfl, rfl, trivial⟩) ?_
  refine Ch.nil ?_
  refine (Ret.of (rs := []) (vs := []) (H' := [some (.cells 95 [.sl (some 2) (l ++ beS x 8).length ((l ++ beS x 8).map bA)]), none, some (.tip 5 1 (l ++ beS x 8).length)]) (res := .tup []) [0, 1, 2] ?_ ?_ rfl ?_ (by simp only [List.length_cons, List.length_nil]; decide) ?_).2
  · exact (fun i hi => by rw [hnA] at hi; simp only [List.length_cons, List.length_nil] at hi ⊢; first | exact absurd hi (Nat.not_lt_zero _) | (revert i; decide))
  · (repeat (first | exact trivial | (refine And.intro ⟨(by first | trivial | (simp; first | done | fail) | exact ⟨trivial, hbel _⟩), _, rfl, (by first | exact .rfl _ | exact .nil | exact .of_eq (by simp [hbl]; first | done | fail) | exact AV.wk.sh (by simp [hbl]; first | done | fail) | exact .untip _ _ _)⟩ ?_)))
  · (repeat (first | exact trivial | refine HFromL.skip ?_ | (refine And.intro ⟨(by first | trivial | (simp; first | done | fail) | exact ⟨trivial, hbel _⟩), (by first | rfl | (simp [hbl]; first | done | fail) | (conv => rhs; simp only [AO.ren, AV.ren, AV.renL, Option.map_some, hbl]) <;> rfl)⟩ ?_)))
  · exact ⟨_, rfl, rfl, by simp [ls, TsOk, List.zip, List.zipWith]⟩
theorem wBytes_fc {G : List (Nat × Array Value)} (l : List UInt8) : FC Try.prog G 44 [.ptr 0 0] (wrH l) (sA l) (wrH l) := by
  refine FC.of_wp [2] Try.func44 rfl rfl rfl rfl ⟨rfl, trivial⟩ ⟨⟨⟨fun k hk => by cases hk; rfl, belL_b _ _⟩, trivial⟩, trivial, trivial⟩ (by exact Nat.le_of_ble_eq_true rfl) ?_
  intro A hG hnA hAB
  unfold start
  refine WP.rs hG ?_
  refine Ch.pu gdN (by exact ⟨rfl, trivial⟩) (OpS.assign) trivial rfl ?_
  refine Ch.nil ?_
  refine WP.rs hG ?_
  refine Ch.pu gdN (by exact ⟨rfl, trivial⟩) (OpS.move) trivial rfl ?_
  refine Ch.pu gdN (by exact ⟨rfl, trivial⟩) (OpS.nilCheckP) (by first | exact trivial | exact ⟨rfl, trivial⟩) rfl ?_
  refine Ch.pu gdN (by exact ⟨rfl, trivial⟩) (OpS.fieldAddr rfl rfl rfl rfl) (by first | exact trivial | exact ⟨rfl, trivial⟩) rfl ?_
  refine Ch.pu gdN (by exact ⟨rfl, trivial⟩) (OpS.loadP rfl rfl rfl) (by first | exact trivial | exact ⟨rfl, trivial⟩) rfl ?_
  refine Ch.pu gdN (by exact ⟨rfl, trivial⟩) (OpS.b2s rfl rfl rfl (by first | rfl | (simp; done) | omega)) (by first | exact trivial | exact ⟨rfl, trivial⟩) rfl ?_
  refine Ch.pu gdN (by exact ⟨rfl, trivial⟩) (OpS.assign) trivial rfl ?_
  refine Ch.nil ?_
  refine WP.ret ?_
  refine (Ret.of (rs := [2]) (vs := [sA l]) (H' := wrH l) (res := sA l) [0, 1] ?_ ?_ rfl ?_ (by simp only [List.length_cons, List.length_nil]; decide) ?_).1
  · exact (fun i hi => by rw [hnA] at hi; simp only [List.length_cons, List.length_nil] at hi ⊢; first | exact absurd hi (Nat.not_lt_zero _) | (revert i; decide))
  · (repeat (first | exact trivial | (refine And.intro ⟨(by first | trivial | (simp; first | done | fail) | exact ⟨trivial, hbel _⟩), _, rfl, (by first | exact .rfl _ | exact .nil | exact .of_eq (by simp; first | done | fail) | exact AV.wk.sh (by simp; first | done | fail) | exact .untip _ _ _)⟩ ?_)))
  · (repeat (first | exact trivial | refine HFromL.skip ?_ | (refine And.intro ⟨(by first | trivial | (simp; first | done | fail) | exact ⟨trivial, hbel _⟩), (by first | rfl | (simp; first | done | fail))⟩ ?_)))
  · rfl
end Go.Proofs.Ytjmbendppcildaa.E
end
