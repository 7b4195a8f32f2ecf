import Derived.Test.YtpnbpcopdckgpaaGreatDoorZc1451e67
import Derived.ChangeArms
import Derived.ChangeOld
import Derived.OpenShut
import Derived.SizedLaws
section
namespace Go.Proofs.YtpnbpcopdckgpaaGreatDoor.E
open Go Go.RowKit Go.ChangeShapes Go.WideShapes Go.Proofs.YtpnbpcopdckgpaaGreatDoor.V
inductive Sh where
 | int (t : TypeId) (k : IntKind)
 | str (t : TypeId)
 | bool (t : TypeId)
 | sl (t : TypeId) (e : Sh)
 | st (t : TypeId) (fs : List Sh)
def Sh.t : Sh → TypeId
 | .int t _ => t
 | .str t => t
 | .bool t => t
 | .sl t _ => t
 | .st t _ => t
mutual
def Sh.size : Sh → Nat
 | .st _ fs => Sh.sizes fs
 | _ => 1
def Sh.sizes : List Sh → Nat
 | [] => 0
 | x :: r => x.size + Sh.sizes r
end
mutual
inductive Ok' (P : Program) : Sh → Prop
 | int {t k} (h : P.underlying t = some (.int k)) : Ok' P (.int t k)
 | str {t} (h : P.underlying t = some .string) : Ok' P (.str t)
 | bool {t} (h : P.underlying t = some .bool) : Ok' P (.bool t)
 | sl {t e} (h : P.underlying t = some (.slice e.t)) (hc : P.cellsOf e.t = e.size) (h0 : 0 < e.size) (he : Ok' P e) : Ok' P (.sl t e)
 | st {t fs fl} (h : P.underlying t = some (.struct fl)) (hf : FOk P 0 fl.toList fs) (hc : P.cellsOf t = Sh.sizes fs) : Ok' P (.st t fs)
inductive FOk (P : Program) : Nat → List Field → List Sh → Prop
 | nil {o} : FOk P o [] []
 | cons {o f s fl ss} (ho : f.offset = o) (ht : f.type = s.t) (hc : P.cellsOf s.t = s.size) (hs : Ok' P s) (hr : FOk P (o + s.size) fl ss) : FOk P o (f :: fl) (s :: ss)
end
mutual
inductive IsSh : Sh → List AV → Prop
 | int {t k n} (h : (Lit.int k n).wf = true) : IsSh (.int t k) [.v (.int k n)]
 | str {t} (l : List UInt8) (h : l.length ≤ reachBytes) : IsSh (.str t) [.v (.string (B l))]
 | bool {t} (b : Bool) : IsSh (.bool t) [.v (.bool b)]
 | sl {t e} (parts : List (List AV)) (h : ∀ p ∈ parts, IsSh e p) (hn : parts.length ≤ maxLen) : IsSh (.sl t e) [.sl none parts.length parts.flatten]
 | st {t fs cs} (h : IsShs fs cs) : IsSh (.st t fs) cs
inductive IsShs : List Sh → List AV → Prop
 | nil : IsShs [] []
 | cons {s ss c cs} (h : IsSh s c) (r : IsShs ss cs) : IsShs (s :: ss) (c ++ cs)
end
section
variable {H : Type} {enc : TypeId × Value → H} {P : Program} {w : World} {spare : Nat → Bool} {held : Bool}
theorem cells_get {a : Addr} {n : Nat} {cs : List Value} (h : w.cells? 0 a n = some cs) : cs.length = n ∧ ∀ i, i < n → w.cell? (a.add i) = cs[i]? := by
 obtain ⟨_, h1, h2⟩ := World.cells?_some h
 exact ⟨h1, h2⟩
end
theorem list_of {α : Type} (f : α → List AV) (Q : α → Prop) : ∀ (parts : List (List AV)), (∀ p ∈ parts, ∃ x, Q x ∧ p = f x) → ∃ xs : List α, (∀ x ∈ xs, Q x) ∧ parts = xs.map f
 | [], _ => ⟨[], (fun x hx => by cases hx), rfl⟩
 | p :: parts, h => by
  obtain ⟨x, hx, rfl⟩ := h p (by simp)
  obtain ⟨xs, hxs, rfl⟩ := list_of f Q parts (fun q hq => h q (by simp [hq]))
  exact ⟨x :: xs, fun y hy => (List.mem_cons.1 hy).elim (fun e => e ▸ hx) (hxs y), rfl⟩
theorem flat_one {α : Type} (g : α → AV) : ∀ xs : List α, (xs.map fun x => [g x]).flatten = xs.map g
 | [] => rfl
 | x :: xs => by rw [List.map_cons, List.flatten_cons, flat_one g xs]; rfl
theorem IsSh.strs {t t' : TypeId} {c : AV} (h : IsSh (.sl t (.str t')) [c]) : ∃ ss : List (List UInt8), c = .sl none ss.length (ss.map sA) ∧ (∀ s ∈ ss, s.length ≤ reachBytes) ∧ ss.length ≤ maxLen := by
 generalize hl : [c] = cs at h
 cases h with
 | sl parts hp hn =>
  cases hl
  obtain ⟨xs, hq, rfl⟩ := list_of (fun l : List UInt8 => [sA l]) (fun l => l.length ≤ reachBytes) parts (fun p hm => by
   cases hp p hm with
   | str l h => exact ⟨l, h, rfl⟩)
  refine ⟨xs, ?_, hq, by simpa using hn⟩
  rw [List.length_map, flat_one]
theorem IsSh.one {sh : Sh} {cs : List AV} (h : IsSh sh cs) (h1 : ∀ t fs, sh ≠ .st t fs) : ∃ c, cs = [c] := by
 cases h with
 | st => exact absurd rfl (h1 _ _)
 | _ => exact ⟨_, rfl⟩
end Go.Proofs.YtpnbpcopdckgpaaGreatDoor.E
end
