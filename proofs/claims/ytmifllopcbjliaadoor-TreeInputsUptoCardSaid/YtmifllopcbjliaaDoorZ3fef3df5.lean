import Derived.Test.YtmifllopcbjliaaDoorZ40379ab2
import Derived.Test.YtmifllopcbjliaaDoorZ7bade255
section
/- From concrete promises to abstract ones, and back. -/
namespace Go.Proofs.YtmifllopcbjliaaDoor.E
open Go Go.RowKit Go.Proofs.YtmifllopcbjliaaDoor.V

theorem HSat.fr {A : Amb} {h : Nat → Option AO} {u : Nat → Bool} {ρ : Env} {w w' : World} (H : HSat A ρ h u w) (hf : Fr [] w w') : HSat A ρ h u w' ∧ (∀ av x, VRel (Nh A h ρ w) ρ w av x → VRel (Nh A h ρ w') ρ w' av x) ∧ ∀ b o, w.heap.size ≤ b → b < w'.heap.size → Nh A h ρ w' b o :=
  H.grow hf.os hf.tape hf.output hf.size (fun k hk => hf.block k hk (by simp))

/-- a function that only computes: its concrete promise gives the abstract one -/
theorem FC.of_calls {P : Program} {G : List (Nat × Array Value)} {f : FuncId} {fn : Func} {c : Code} {args : List AV} {r : Value} (hf : P.funcs[f]? = some fn) (hname : (fn.name == "runtime.NumGoroutine") = false) (hb : fn.body = some c) (belA : AV.belL (blt 0) args)
    (h : ∀ (A : Amb) (vs : Array Value), A.G = G → HSat A A.ρ (hl []) (blt 0) A.w → vs.size = args.length → (∀ (i : Nat) (c : AV) (x : Value), args[i]? = some c → vs[i]? = some x → VRel (Nh A (hl []) A.ρ A.w) A.ρ A.w c x) →
      Calls P f vs A.w fun e w' => e = .returned r ∧ Fr [] A.w w') : FC P G f args [] (.v r) [] := by
  refine ⟨⟨fn, c, hf, hname, hb⟩, belA, trivial, Nat.le_refl _, ?_⟩
  intro A vs hG hnA HS hAB hsz hargs
  refine (h A vs hG HS hsz hargs).mono ?_
  rintro e w' ⟨rfl, hfr⟩
  exact ⟨r, A.ρ, rfl, (HS.fr hfr).1, .v r⟩
theorem tab_of {A : Amb} {h : Nat → Option AO} {u : Nat → Bool} {ρ : Env} {w : World} (H : HSat A ρ h u w) {G : List (Nat × Array Value)} (hG : A.G = G) {g : Nat} {arr : Array Value} (hm : (g, arr) ∈ G) : ∃ T, w.heap[g]? = some (.cells arr T (0, 0)) := by
  obtain ⟨⟨T, h1⟩, h2⟩ := H.tabs _ (by rw [hG]; exact hm)
  exact ⟨T, (H.block g (Array.getElem?_eq_some_iff.1 h1).1 h2).trans h1⟩

def allN (w : World) : Nat → Nat → Prop := fun b _ => b < w.heap.size
def noE : Env := ⟨fun _ => none, fun _ => none⟩
/-- and back -/
theorem FC.calls {P : Program} {G : List (Nat × Array Value)} {f : FuncId} {args : List AV} {r : Value} (F : FC P G f args [] (.v r) []) (w : World) (hT : ∀ x ∈ G, ∃ T, w.heap[x.1]? = some (.cells x.2 T (0, 0))) (vs : Array Value) (hsz : vs.size = args.length)
    (hargs : ∀ (i : Nat) (c : AV) (x : Value), args[i]? = some c → vs[i]? = some x → VRel (allN w) noE w c x) : Calls P f vs w fun e w' => e = .returned r ∧ Fr [] w w' := by
  let A : Amb := ⟨w, allN w, fun _ _ => False, fun _ => False, 0, G, noE⟩
  have hno : ∀ i ob, hl [] i = some ob → False := fun i ob h => by have := (hl_some h).1; simp at this
  have HS : HSat A noE (hl []) (blt 0) w :=
    ⟨rfl, rfl, rfl, Nat.le_refl _, fun _ _ _ => rfl, fun _ _ _ => rfl, fun _ _ h => h, fun _ _ _ h => h, fun _ _ h => h, fun x hx => ⟨hT x hx, fun h => h⟩, (fun _ _ h => by cases h), (fun _ _ h => by cases h), (fun i hi => by cases hi), (fun _ _ h => by cases h), (fun _ _ h => by cases h),
      fun i ob h => (hno i ob h).elim, fun i ob _ _ h => (hno i ob h).elim, fun i ob _ h => (hno i ob h).elim, fun i j oi oj b h => (hno i oi h).elim⟩
  refine (F.call A vs rfl rfl HS (fun _ h => h.elim) hsz (fun i c x hc hx => (hargs i c x hc hx).mono (fun b o hb => ⟨hb, .inl hb, fun i ob h => (hno i ob h).elim⟩) (Env.le_refl _) (fun _ _ _ => rfl))).mono ?_
  rintro e w' ⟨v, ρ', rfl, HS', hv⟩
  refine ⟨by rw [hv.raw], ⟨HS'.os, HS'.tape, HS'.output, HS'.size, fun k hk _ => HS'.block k hk (fun h => h)⟩⟩
end Go.Proofs.YtmifllopcbjliaaDoor.E
end
section
/- Other ways to say what a function promises; a call that yields a new entry. -/
namespace Go.Proofs.YtmifllopcbjliaaDoor.E
open Go Go.RowKit Go.Proofs.YtmifllopcbjliaaDoor.V

theorem FC.conv {P : Program} {G : List (Nat × Array Value)} {f : FuncId} {args : List AV} {H H' H'' : List (Option AO)} {res res' : AV} (F : FC P G f args H res H') (hlen : H.length ≤ H''.length)
    (h : ∀ A : Amb, A.nA = H.length → A.G = G → (∀ b, A.B b → ∃ i ob, hl H i = some ob ∧ ob.at_ A.ρ i b) → SEnt A ⟨1, ls [(0, res)], hl H', blt H'.length⟩ ⟨1, ls [(0, res')], hl H'', blt H''.length⟩) : FC P G f args H res' H'' := by
  refine ⟨F.enter, F.belA, F.belH, hlen, ?_⟩
  intro A vs hG hnA HS hAB hsz hargs
  refine (F.call A vs hG hnA HS hAB hsz hargs).mono ?_
  rintro e w' ⟨v, ρ', rfl, HS', hv⟩
  have hst : Sat A ρ' ⟨1, ls [(0, res)], hl H', blt H'.length⟩ ⟨#[v], []⟩ w' := by
    refine ⟨HS', ?_, rfl, rfl⟩
    intro t x hx
    have := ls_some hx
    simp at this
    obtain ⟨rfl, rfl⟩ := this
    exact ⟨v, rfl, hv⟩
  obtain ⟨ρ'', hs'⟩ := h A hnA hG hAB _ _ _ hst
  obtain ⟨x, hx, hv'⟩ := hs'.slots 0 res' rfl
  cases hx
  exact ⟨v, ρ'', rfl, hs'.mem, hv'⟩
theorem hl_one (x : AO) : hl [some x] = lh [(0, x)] := by
  funext i
  cases i with
  | zero => rfl
  | succ i => rfl
theorem FC.thaw {P : Program} {G : List (Nat × Array Value)} {f : FuncId} {args : List AV} {n sz : Nat} {E : TypeId} {cs : List AV} (F : FC P G f args [] (.sl (some 0) n cs) [some (.tip E sz n)]) (hc : cs.length = n * sz) (h0 : 0 < n * sz) (hraw : ∀ x ∈ cs, ∃ v, x = .v v) :
    FC P G f args [] (.arr 0 0 n) [some (.cells E cs)] := by
  refine F.conv (Nat.zero_le _) fun A hnA _ hAB => ?_
  rw [hl_one, hl_one]
  exact SEnt.thaw (σ := ⟨1, ls [(0, .sl (some 0) n cs)], lh [(0, .tip E sz n)], _⟩) rfl rfl hc h0 hraw (by rw [hnA]; exact Nat.zero_le _) (Nat.lt_succ_self 0) (fun b hb => by obtain ⟨i, ob, h, -⟩ := hAB b hb; have := (hl_some h).1; simp at this)
theorem FC.shut {P : Program} {G : List (Nat × Array Value)} {f : FuncId} {args : List AV} {n : Nat} {o : Option Nat} {cs : List AV} {H' : List (Option AO)} (F : FC P G f args [] (.sl o n cs) H') (hb : AV.belL (blt 0) cs) (hr : AV.renL (rn []) cs = cs) : FC P G f args [] (.sl none n cs) [] := by
  refine F.conv (Nat.le_refl _) fun A hnA _ hAB => ?_
  refine (Ent.of (l := [(0, .sl none n cs)]) (lo := []) (m := 0) [] (fun i hi => by rw [hnA] at hi; cases hi) ⟨⟨⟨by simp, hb⟩, _, rfl, by
    have : AV.ren (rn []) (.sl none n cs) = .sl none n cs := by simp [AV.ren, hr]
    rw [this]; exact .untip _ _ _⟩, trivial⟩ trivial (by simp)).se

/-- a row that will not be written any more -/
theorem SEnt.freeze {A : Amb} {σ : AS} {t c n m : Nat} {E : TypeId} {cs : List AV} (hs : σ.s t = some (.arr c 0 n)) (hc : σ.h c = some (.cells E cs)) (hl : cs.length = n) (hraw : ∀ x ∈ cs, ∃ v, x = .v v) (hk : A.nA ≤ m) :
    SEnt A σ ⟨σ.n, ls [(t, .sl none n cs)], lh [], blt m⟩ := by
  intro ρ a w hst
  obtain ⟨x, hx, hv⟩ := hst.slots t _ hs
  obtain ⟨b', arr, h1, h2, h3, h4⟩ := hst.mem.heap c _ hc
  cases hv with
  | arr _ _ _ cap b hb hn hmx =>
    obtain rfl : b = b' := by rw [hb] at h1; exact Option.some.inj h1
    let ρ' : Env := ⟨fun i => if i < A.nA then ρ.blk i else none, fun i => if i < A.nA then ρ.tip i else none⟩
    refine ⟨ρ', ⟨⟨hst.mem.os, hst.mem.tape, hst.mem.output, hst.mem.size, hst.mem.block, hst.mem.keep, hst.mem.nlt, hst.mem.nw, hst.mem.wb, hst.mem.tabs, hst.mem.domB, hst.mem.domT, ?_, ?_, ?_, ?_, ?_, ?_, ?_⟩, ?_, hst.nt, hst.defers⟩⟩
    · intro i hi
      refine ⟨blt_iff.2 (by omega), ?_, ?_⟩
      · show (if i < A.nA then ρ.blk i else _) = _; rw [if_pos hi]; exact (hst.mem.fix i hi).2.1
      · show (if i < A.nA then ρ.tip i else _) = _; rw [if_pos hi]; exact (hst.mem.fix i hi).2.2
    · intro i b hb
      have hb' : (if i < A.nA then ρ.blk i else none) = some b := hb
      refine blt_iff.2 ?_
      split at hb'
      · omega
      · cases hb'
    · intro i b hb
      have hb' : (if i < A.nA then ρ.tip i else none) = some b := hb
      refine blt_iff.2 ?_
      split at hb'
      · omega
      · cases hb'
    · intro i ob hi; cases hi
    · intro i ob b o hi; cases hi
    · intro i ob b hi; cases hi
    · intro i j oi oj b hi; cases hi
    · intro t' v' ht'
      have hm' := ls_some ht'
      simp only [List.mem_singleton, Prod.mk.injEq] at hm'
      obtain ⟨rfl, rfl⟩ := hm'
      refine ⟨_, hx, .sl none n cs (some ⟨b, 0, none⟩) cap (fun i => arr.getD i undef) (fun i hi => ?_) (fun i c' hc' => ?_) (fun k hk => by cases hk) hn (fun h => by cases h) hmx⟩
      · have hlt : i < arr.size := by omega
        have hg : arr[i]? = some (arr.getD i undef) := by simp [Array.getD, hlt]
        obtain ⟨c', hc'⟩ : ∃ c', cs[i]? = some c' := ⟨_, List.getElem?_eq_getElem hi⟩
        refine ⟨(h4 i c' _ hc' hg).2, b, 0, rfl, ?_, (Array.getElem?_eq_some_iff.1 h2).1, ?_, fun i ob h => by cases h⟩
        · rw [cell_of_row w b (0 + i) arr E (0, 0) h2, Nat.zero_add]; exact hg
        · exact .inr (hst.mem.own c _ b (0 + i) hc hb)
      · have hi := (List.getElem?_eq_some_iff.1 hc').1
        have hlt : i < arr.size := by omega
        have hg : arr[i]? = some (arr.getD i undef) := by simp [Array.getD, hlt]
        obtain ⟨v, rfl⟩ := hraw c' (List.mem_of_getElem? hc')
        have := (h4 i _ _ hc' hg).1.raw
        show VRel _ _ _ _ (arr.getD i undef)
        rw [this]
        exact .v v
theorem OpS.rem {P : Program} {G : List (Nat × Array Value)} {t t' : TypeId} {x y : Operand} {k : IntKind} {a b : Int} (ha : 0 ≤ a) (hb : 0 < b) {dst : Option Tmp} {ty : TypeId} {pos : String} {aft : Array Edge} {gd : Option (Nat × Bool)} :
    OpS P G ⟨dst, .binOp .rem t x y t', ty, pos, aft, gd⟩ [(x, .v (.int k a)), (y, .v (.int k b))] [] ⟨some (.v (.int k (a % b))), [], []⟩ := by
  refine OpS.binR rfl fun w => ?_
  simp only [binOp, Op.intDiv]
  rw [if_neg (show ¬ b = 0 by omega), Int.tmod_eq_emod_of_nonneg ha, if_neg (show ¬ (k ≠ k) by simp)]
  rfl
theorem OpS.quo {P : Program} {G : List (Nat × Array Value)} {t t' : TypeId} {x y : Operand} {a b : Int} (ha : 0 ≤ a) (ha' : a < 9223372036854775808) (hb : 0 < b) {dst : Option Tmp} {ty : TypeId} {pos : String} {aft : Array Edge} {gd : Option (Nat × Bool)} :
    OpS P G ⟨dst, .binOp .quo t x y t', ty, pos, aft, gd⟩ [(x, .v (.int .i64 a)), (y, .v (.int .i64 b))] [] ⟨some (.v (.int .i64 (a / b))), [], []⟩ := by
  refine OpS.binR rfl fun w => ?_
  simp only [binOp, Op.intDiv]
  rw [if_neg (show ¬ b = 0 by omega), Int.tdiv_eq_ediv_of_nonneg ha, IntKind.wrap_i64]
  have h1 := Int.ediv_nonneg ha (Int.le_of_lt hb)
  have h2 : a / b ≤ a := Int.ediv_le_self b ha
  have : (a / b + 9223372036854775808) % 18446744073709551616 - 9223372036854775808 = a / b := by omega
  first | (rw [this]; rfl) | rfl
/-- one value with one entry goes back -/
theorem Ret.row {A : Amb} {n : Nat} {s : Nat → Option AV} {h : Nat → Option AO} {u : Nat → Bool} {t : Tmp} {v res : AV} {ob : AO} (i : Nat) (hs : s t = some v) (hk : v.wk (res.ren (rn [i]))) (hb : res.bel (blt 1)) (hh : h i = some (ob.ren (rn [i]))) (ho : ob.bel (blt 1)) (hA : A.nA = 0) : Ret A [t] res [some ob] .ret ⟨n, s, h, u⟩ :=
  (Ret.of (rs := [t]) (vs := [res]) (H' := [some ob]) (res := res) [i] (fun j hj => by rw [hA] at hj; cases hj) ⟨⟨hb, v, hs, hk⟩, trivial⟩ rfl ⟨⟨ho, hh⟩, trivial⟩ (by simp) (show ls [(t, res)] t = some res by simp [ls])).1
section
variable {P : Program} {G : List (Nat × Array Value)} {l r : List Oper} {K : AS → Prop} {n : Nat} {s : Nat → Option AV} {h : Nat → Option AO} {u : Nat → Bool} {d : Tmp} {ty : TypeId} {pos : String} {aft : Array Edge} {gd : Option (Nat × Bool)} {D : Bool} {acc : List St}
theorem pi_nil (b j : Nat) : pi [] b j = b + j := rfl
/-- a call that yields one new entry -/
theorem Ch.callN {f : FuncId} {args : List AV} {res : AV} {ob : AO} (b : Nat) (F : FC P G f args [] res [some ob]) {xs : List Operand} {ys : List AV} {ats : Array TypeId}
    (hg : GdOk l.toArray ⟨some d, .call ⟨.value (.func f), xs.toArray, ats⟩, ty, pos, aft, gd⟩ ⟨n, s, h, u⟩ true) (hev : EvL ⟨n, s, h, u⟩ xs ys) (hwk : WkL ys (args.map (AV.ren (pi [] b)))) {res' : AV} {ob' : AO} (hres : res.ren (pi [] b) = res') (hob : ob.ren (pi [] b) = ob') (h3 : NuOk ⟨n, s, h, u⟩ [b]) (hd : Nat.blt d n = true)
    (hr : Ch P G l D K (⟨true, xs.zip ys, [], ⟨some res', [(b, some ob')], [b]⟩⟩ :: acc) r ⟨n, upd s d (some res'), chs h [(b, some ob')], nuU u [b]⟩) :
    Ch P G l D K acc (⟨some d, .call ⟨.value (.func f), xs.toArray, ats⟩, ty, pos, aft, gd⟩ :: r) ⟨n, s, h, u⟩ := by
  subst hres
  subst hob
  exact Ch.call F [] b hg hev hwk rfl (by simp) (by simp) trivial h3 hd hr
theorem Ch.callT {f : FuncId} {args : List AV} {E : TypeId} {sz m k : Nat} {cs : List AV} (b : Nat) (F : FC P G f args [] (.sl (some 0) m cs) [some (.tip E sz k)]) {xs : List Operand} {ys : List AV} {ats : Array TypeId}
    (hg : GdOk l.toArray ⟨some d, .call ⟨.value (.func f), xs.toArray, ats⟩, ty, pos, aft, gd⟩ ⟨n, s, h, u⟩ true) (hev : EvL ⟨n, s, h, u⟩ xs ys) (hwk : WkL ys (args.map (AV.ren (pi [] b)))) (hc : AV.renL (pi [] b) cs = cs) (h3 : NuOk ⟨n, s, h, u⟩ [b]) (hd : Nat.blt d n = true)
    (hr : Ch P G l D K (⟨true, xs.zip ys, [], ⟨some (.sl (some b) m cs), [(b, some (.tip E sz k))], [b]⟩⟩ :: acc) r ⟨n, upd s d (some (.sl (some b) m cs)), chs h [(b, some (.tip E sz k))], nuU u [b]⟩) :
    Ch P G l D K acc (⟨some d, .call ⟨.value (.func f), xs.toArray, ats⟩, ty, pos, aft, gd⟩ :: r) ⟨n, s, h, u⟩ :=
  Ch.callN b F hg hev hwk (by simp [AV.ren, hc, pi_nil]) (by simp [AO.ren]) h3 hd hr
theorem Ch.callA {f : FuncId} {args : List AV} {E : TypeId} {m : Nat} {cs : List AV} (b : Nat) (F : FC P G f args [] (.arr 0 0 m) [some (.cells E cs)]) {xs : List Operand} {ys : List AV} {ats : Array TypeId}
    (hg : GdOk l.toArray ⟨some d, .call ⟨.value (.func f), xs.toArray, ats⟩, ty, pos, aft, gd⟩ ⟨n, s, h, u⟩ true) (hev : EvL ⟨n, s, h, u⟩ xs ys) (hwk : WkL ys (args.map (AV.ren (pi [] b)))) (hc : AV.renL (pi [] b) cs = cs) (h3 : NuOk ⟨n, s, h, u⟩ [b]) (hd : Nat.blt d n = true)
    (hr : Ch P G l D K (⟨true, xs.zip ys, [], ⟨some (.arr b 0 m), [(b, some (.cells E cs))], [b]⟩⟩ :: acc) r ⟨n, upd s d (some (.arr b 0 m)), chs h [(b, some (.cells E cs))], nuU u [b]⟩) :
    Ch P G l D K acc (⟨some d, .call ⟨.value (.func f), xs.toArray, ats⟩, ty, pos, aft, gd⟩ :: r) ⟨n, s, h, u⟩ :=
  Ch.callN b F hg hev hwk (by simp [AV.ren, pi_nil]) (by simp [AO.ren, hc]) h3 hd hr
end
attribute [simp] AV.ren AV.renL renL_append renL_w renL_b renL_s renL_i ren_w ren_b ren_s ren_i rn wA bA sA iA bv AV.bel AV.belL belL_w belL_b belL_s belL_i bel_w bel_b bel_s bel_i AO.bel AO.ren belH blt chs upd lh hl
end Go.Proofs.YtmifllopcbjliaaDoor.E
end
section
/- SHA-256 as plain mathematics: words, rounds, blocks, sums; no program in sight. -/
namespace Go.Proofs.YtmifllopcbjliaaDoor.V

def wordOf (l : List UInt8) : UInt32 := shl32 (nth l 0).toUInt32 24 ||| shl32 (nth l 1).toUInt32 16 ||| shl32 (nth l 2).toUInt32 8 ||| (nth l 3).toUInt32
/-- turned to the right -/
def ror (x : UInt32) (n : Nat) : UInt32 := shl32 x (32 - n) ||| shr32 x n
def be4 (x : UInt32) : List UInt8 := [(shr32 x 24).toUInt8, (shr32 x 16).toUInt8, (shr32 x 8).toUInt8, x.toUInt8]

structure St where
  a : UInt32
  b : UInt32
  c : UInt32
  d : UInt32
  e : UInt32
  f : UInt32
  g : UInt32
  h : UInt32

/-- a round -/
def rnd (s : St) (kw : UInt32) : St :=
  let t := s.h + (ror s.e 6 ^^^ ror s.e 11 ^^^ ror s.e 25) + (s.e &&& s.f ^^^ ~~~s.e &&& s.g) + kw
  let u := (ror s.a 2 ^^^ ror s.a 13 ^^^ ror s.a 22) + (s.a &&& s.b ^^^ s.a &&& s.c ^^^ s.b &&& s.c)
  ⟨t + u, s.a, s.b, s.c, s.d + t, s.e, s.f, s.g⟩
def St.add (s t : St) : St := ⟨s.a + t.a, s.b + t.b, s.c + t.c, s.d + t.d, s.e + t.e, s.f + t.f, s.g + t.g, s.h + t.h⟩
def St.words (s : St) : List UInt32 := [s.a, s.b, s.c, s.d, s.e, s.f, s.g, s.h]

def lget (l : List UInt32) (i : Nat) : UInt32 := l[i]?.getD 0
def sig0 (x : UInt32) : UInt32 := ror x 7 ^^^ ror x 18 ^^^ shr32 x 3
def sig1 (x : UInt32) : UInt32 := ror x 17 ^^^ ror x 19 ^^^ shr32 x 10
/-- the next word of a block's schedule -/
def nxt (blk : List UInt8) (l : List UInt32) : UInt32 :=
  if l.length < 16 then wordOf (blk.drop (4 * l.length)) else lget l (l.length - 16) + sig0 (lget l (l.length - 15)) + lget l (l.length - 7) + sig1 (lget l (l.length - 2))
def sched (blk : List UInt8) : Nat → List UInt32
  | 0 => []
  | n + 1 => sched blk n ++ [nxt blk (sched blk n)]
theorem sched_length (blk : List UInt8) (n : Nat) : (sched blk n).length = n := by
  induction n with
  | zero => rfl
  | succ n ih => simp [sched, ih]

def kTab : List UInt32 := [
  0x428a2f98, 0x71374491, 0xb5c0fbcf, 0xe9b5dba5, 0x3956c25b, 0x59f111f1, 0x923f82a4, 0xab1c5ed5,
  0xd807aa98, 0x12835b01, 0x243185be, 0x550c7dc3, 0x72be5d74, 0x80deb1fe, 0x9bdc06a7, 0xc19bf174,
  0xe49b69c1, 0xefbe4786, 0x0fc19dc6, 0x240ca1cc, 0x2de92c6f, 0x4a7484aa, 0x5cb0a9dc, 0x76f988da,
  0x983e5152, 0xa831c66d, 0xb00327c8, 0xbf597fc7, 0xc6e00bf3, 0xd5a79147, 0x06ca6351, 0x14292967,
  0x27b70a85, 0x2e1b2138, 0x4d2c6dfc, 0x53380d13, 0x650a7354, 0x766a0abb, 0x81c2c92e, 0x92722c85,
  0xa2bfe8a1, 0xa81a664b, 0xc24b8b70, 0xc76c51a3, 0xd192e819, 0xd6990624, 0xf40e3585, 0x106aa070,
  0x19a4c116, 0x1e376c08, 0x2748774c, 0x34b0bcb5, 0x391c0cb3, 0x4ed8aa4a, 0x5b9cca4f, 0x682e6ff3,
  0x748f82ee, 0x78a5636f, 0x84c87814, 0x8cc70208, 0x90befffa, 0xa4506ceb, 0xbef9a3f7, 0xc67178f2]
def first : St := ⟨0x6a09e667, 0xbb67ae85, 0x3c6ef372, 0xa54ff53a, 0x510e527f, 0x9b05688c, 0x1f83d9ab, 0x5be0cd19⟩

def rounds (v : St) (w : List UInt32) : Nat → St
  | 0 => v
  | n + 1 => rnd (rounds v w n) (lget kTab n + lget w n)
/-- the state behind a block -/
def mixed (v : St) (blk : List UInt8) : St := v.add (rounds v (sched blk 64) 64)

def St.text (s : St) : List UInt8 := s.words.flatMap be4
theorem flat_be4_length (l : List UInt32) : (l.flatMap be4).length = 4 * l.length := by
  induction l with
  | nil => rfl
  | cons x l ih => simp only [List.flatMap_cons, List.length_append, ih, List.length_cons]; simp [be4]; omega
theorem take_words (s : St) (n : Nat) (h : n < 8) : (s.words.take (n + 1)).flatMap be4 = (s.words.take n).flatMap be4 ++ be4 (lget s.words n) := by
  have h1 : n < s.words.length := h
  rw [List.take_succ_eq_append_getElem h1, List.flatMap_append]
  simp [lget, h1]
def readSt (l : List UInt8) : St := ⟨wordOf l, wordOf (l.drop 4), wordOf (l.drop 8), wordOf (l.drop 12), wordOf (l.drop 16), wordOf (l.drop 20), wordOf (l.drop 24), wordOf (l.drop 28)⟩
theorem St.text_length (s : St) : s.text.length = 32 := by simp [St.text, St.words, be4]

/-- block by block -/
def eat : Nat → St → List UInt8 → St
  | 0, v, _ => v
  | n + 1, v, l => eat n (mixed v (l.take 64)) (l.drop 64)
def noughts (n : Nat) : Nat := (119 - n % 64) % 64
def pad (n : Nat) : List UInt8 := 128 :: (List.replicate (noughts n) 0 ++ (be4 (UInt64.toUInt32 (shr64 (8 * UInt64.ofNat n) 32)) ++ be4 (8 * UInt32.ofNat n)))
theorem pad_len (n : Nat) : 9 ≤ (pad n).length ∧ (pad n).length ≤ 72 ∧ (n + (pad n).length) % 64 = 0 := by
  have : (pad n).length = noughts n + 9 := by simp [pad, be4]
  rw [this]
  unfold noughts
  omega
def sumSt (l : List UInt8) : St := eat ((l ++ pad l.length).length / 64) first (l ++ pad l.length)
def sum (l : List UInt8) : List UInt8 := (sumSt l).text
def input (d : UInt8) (ps : List (List UInt8)) : List UInt8 := d :: ps.flatMap fun p => be4 (UInt32.ofNat p.length) ++ p
def tag (d : UInt8) (ps : List (List UInt8)) : List UInt8 := sum (input d ps)
end Go.Proofs.YtmifllopcbjliaaDoor.V
end
section
/- Plain laws of SHA-256: a state out of its text; going on block by block; what the padding holds. -/
namespace Go.Proofs.YtmifllopcbjliaaDoor.V

theorem word_be4 (x : UInt32) (r : List UInt8) : wordOf (be4 x ++ r) = x := by
  apply UInt32.toNat_inj.1
  have hx := x.toNat_lt
  simp only [wordOf, be4, nth, List.cons_append, List.nil_append, List.getElem?_cons_zero, List.getElem?_cons_succ, Option.getD_some, shl32, shr32, UInt32.toNat_or, UInt32.toNat_ofNat', UInt8.toNat_toUInt32, UInt32.toNat_toUInt8]
  generalize x.toNat = n at hx ⊢
  apply Nat.eq_of_testBit_eq
  intro i
  have h32 : ∀ j, 32 ≤ j → n.testBit j = false := fun j hj => Nat.testBit_lt_two_pow (Nat.lt_of_lt_of_le hx (Nat.pow_le_pow_right (by decide) hj))
  simp only [← Nat.shiftLeft_eq, ← Nat.shiftRight_eq_div_pow, Nat.testBit_or, Nat.testBit_mod_two_pow, Nat.testBit_shiftLeft, Nat.testBit_shiftRight]
  by_cases a : 32 ≤ i
  · rw [h32 i a]; simp; omega
  · by_cases b : 24 ≤ i
    · have : 24 + (i - 24) = i := by omega
      rw [this]; generalize n.testBit i = b; cases b <;> simp <;> omega
    · by_cases c : 16 ≤ i
      · have : 16 + (i - 16) = i := by omega
        rw [this]; generalize n.testBit i = b; cases b <;> simp <;> omega
      · by_cases d : 8 ≤ i
        · have : 8 + (i - 8) = i := by omega
          rw [this]; generalize n.testBit i = b; cases b <;> simp <;> omega
        · generalize n.testBit i = b; cases b <;> simp <;> omega

theorem be4_length (x : UInt32) : (be4 x).length = 4 := rfl
theorem readSt_text (s : St) : readSt s.text = s := by
  obtain ⟨a, b, c, d, e, f, g, h⟩ := s
  have drop4 : ∀ (x : UInt32) (r : List UInt8), (be4 x ++ r).drop 4 = r := fun x r => rfl
  have e : (St.mk a b c d e f g h).text = be4 a ++ (be4 b ++ (be4 c ++ (be4 d ++ (be4 e ++ (be4 f ++ (be4 g ++ (be4 h ++ []))))))) := rfl
  rw [e]
  unfold readSt
  have d8 : ∀ (l : List UInt8), l.drop 8 = (l.drop 4).drop 4 := fun l => by rw [List.drop_drop]
  have d12 : ∀ (l : List UInt8), l.drop 12 = ((l.drop 4).drop 4).drop 4 := fun l => by simp only [List.drop_drop]
  have d16 : ∀ (l : List UInt8), l.drop 16 = (((l.drop 4).drop 4).drop 4).drop 4 := fun l => by simp only [List.drop_drop]
  have d20 : ∀ (l : List UInt8), l.drop 20 = ((((l.drop 4).drop 4).drop 4).drop 4).drop 4 := fun l => by simp only [List.drop_drop]
  have d24 : ∀ (l : List UInt8), l.drop 24 = (((((l.drop 4).drop 4).drop 4).drop 4).drop 4).drop 4 := fun l => by simp only [List.drop_drop]
  have d28 : ∀ (l : List UInt8), l.drop 28 = ((((((l.drop 4).drop 4).drop 4).drop 4).drop 4).drop 4).drop 4 := fun l => by simp only [List.drop_drop]
  rw [d8, d12, d16, d20, d24, d28]
  simp only [drop4, word_be4]

theorem eat_append (m n : Nat) : ∀ (v : St) (x y : List UInt8), x.length = 64 * m → eat (m + n) v (x ++ y) = eat n (eat m v x) y := by
  induction m with
  | zero =>
    intro v x y h
    obtain rfl : x = [] := List.eq_nil_of_length_eq_zero (by omega)
    simp [eat]
  | succ m ih =>
    intro v x y h
    rw [Nat.succ_add, eat, eat, List.take_append_of_le_length (by omega), List.drop_append_of_le_length (by omega)]
    exact ih _ _ _ (by rw [List.length_drop]; omega)

/-- THE SUM GOES ON: behind a text and its padding -/
theorem sum_on (s t : List UInt8) : eat ((t ++ pad ((s ++ pad s.length).length + t.length)).length / 64) (sumSt s) (t ++ pad ((s ++ pad s.length).length + t.length)) = sumSt ((s ++ pad s.length) ++ t) := by
  have h1 := pad_len s.length
  have h2 := pad_len ((s ++ pad s.length).length + t.length)
  have e : sumSt ((s ++ pad s.length) ++ t) = eat (((s ++ pad s.length) ++ (t ++ pad ((s ++ pad s.length).length + t.length))).length / 64) first ((s ++ pad s.length) ++ (t ++ pad ((s ++ pad s.length).length + t.length))) := by
    unfold sumSt
    simp only [List.length_append, List.append_assoc, Nat.add_assoc]
  rw [e]
  have hl : (s ++ pad s.length).length = 64 * ((s ++ pad s.length).length / 64) := by rw [List.length_append]; omega
  generalize hA : s ++ pad s.length = A at *
  generalize hR : t ++ pad (A.length + t.length) = R at *
  have hq : (A ++ R).length / 64 = A.length / 64 + R.length / 64 := by rw [List.length_append]; omega
  rw [hq, eat_append _ _ _ _ _ hl]
  congr 1
  unfold sumSt
  rw [hA]

def padTail (n : Nat) : List UInt8 := be4 (UInt64.toUInt32 (shr64 (8 * UInt64.ofNat n) 32)) ++ be4 (8 * UInt32.ofNat n)
theorem pad_length (n : Nat) : (pad n).length = noughts n + 9 := by simp [pad, be4]
theorem pad_first (n : Nat) : nth (pad n) 0 = 128 := rfl
theorem pad_mid (n i : Nat) (h0 : 1 ≤ i) (h1 : i < noughts n + 1) : nth (pad n) i = 0 := by
  obtain ⟨j, rfl⟩ : ∃ j, i = j + 1 := ⟨i - 1, by omega⟩
  unfold nth pad
  rw [List.getElem?_cons_succ, List.getElem?_append_left (by simp; omega)]
  simp only [List.getElem?_replicate]
  split <;> rfl
theorem pad_last (n j : Nat) (hn : n < 2305843009213693952) (h : j < 8) : (nth (pad n) (noughts n + 1 + j)).toNat = 8 * n / 256 ^ (7 - j) % 256 := by
  have e : nth (pad n) (noughts n + 1 + j) = nth (padTail n) j := by
    unfold nth pad padTail
    rw [show noughts n + 1 + j = (noughts n + j) + 1 by omega, List.getElem?_cons_succ, List.getElem?_append_right (by simp)]
    simp
  rw [e]
  have hj : j = 0 ∨ j = 1 ∨ j = 2 ∨ j = 3 ∨ j = 4 ∨ j = 5 ∨ j = 6 ∨ j = 7 := by omega
  rcases hj with rfl | rfl | rfl | rfl | rfl | rfl | rfl | rfl <;>
    simp [nth, padTail, be4, shr32, shr64] <;> omega
/-- the padding tells how long the text was -/
theorem pad_inj {n m : Nat} (hn : n < 2305843009213693952) (hm : m < 2305843009213693952) (h : pad n = pad m) : n = m := by
  have hl : noughts n = noughts m := by
    have := congrArg List.length h
    rw [pad_length, pad_length] at this
    omega
  have hb : ∀ j < 8, 8 * n / 256 ^ (7 - j) % 256 = 8 * m / 256 ^ (7 - j) % 256 := fun j hj => by
    rw [← pad_last n j hn hj, ← pad_last m j hm hj, h, hl]
  have h0 := hb 0 (by decide)
  have h1 := hb 1 (by decide)
  have h2 := hb 2 (by decide)
  have h3 := hb 3 (by decide)
  have h4 := hb 4 (by decide)
  have h5 := hb 5 (by decide)
  have h6 := hb 6 (by decide)
  have h7 := hb 7 (by decide)
  simp at h0 h1 h2 h3 h4 h5 h6 h7
  omega
theorem long_step (n j : Nat) (hj : j < 8) : 256 * (8 * n / 256 ^ (8 - j)) + 8 * n / 256 ^ (7 - j) % 256 = 8 * n / 256 ^ (8 - (j + 1)) := by
  have e1 : 8 - (j + 1) = 7 - j := by omega
  have e2 : 256 ^ (8 - j) = 256 ^ (7 - j) * 256 := by rw [show 8 - j = (7 - j) + 1 by omega, Nat.pow_succ]
  rw [e1, e2, ← Nat.div_div_eq_div_mul]
  have := Nat.div_add_mod (8 * n / 256 ^ (7 - j)) 256
  omega
/-- which of n things a raw number speaks of -/
def pickN (c : Int) (n : Nat) : Nat := ((if c < 0 then -(c + 1) else c) % n).toNat
theorem pickN_lt (c : Int) (n : Nat) (h : 0 < n) : pickN c n < n := by
  unfold pickN
  have := Int.emod_lt_of_pos (if c < 0 then -(c + 1) else c) (b := n) (by omega)
  have := Int.emod_nonneg (if c < 0 then -(c + 1) else c) (b := n) (by omega)
  omega
end Go.Proofs.YtmifllopcbjliaaDoor.V
end
