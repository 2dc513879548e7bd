/- The abstract picture of memory: its parts. -/
import Derived.RangeFuncLeaves
import Derived.RangeFuncCalls
import Derived.OrdersIn
import Derived.Laws.Cells
import Derived.Laws.CopyRow
import GoSem.Builtin.Append
import GoSem.Builtin.Len
import GoSem.Builtin.Copy
import Derived.Laws.Tables
set_option linter.unusedSimpArgs false
set_option linter.unusedVariables false
set_option linter.unusedSectionVars false
namespace Go.AL
def laid0 : List Value := [.int .u8 0, .int .u8 1, .int .u8 56, .int .u8 2, .int .u8 57, .int .u8 49, .int .u8 28, .int .u8 3, .int .u8 61, .int .u8 58, .int .u8 42, .int .u8 50, .int .u8 38, .int .u8 29, .int .u8 17, .int .u8 4, .int .u8 62, .int .u8 47, .int .u8 59, .int .u8 36, .int .u8 45, .int .u8 43, .int .u8 51, .int .u8 22, .int .u8 53, .int .u8 39, .int .u8 33, .int .u8 30, .int .u8 24, .int .u8 18, .int .u8 12, .int .u8 5, .int .u8 63, .int .u8 55, .int .u8 48, .int .u8 27, .int .u8 60, .int .u8 41, .int .u8 37, .int .u8 16, .int .u8 46, .int .u8 35, .int .u8 44, .int .u8 21, .int .u8 52, .int .u8 32, .int .u8 23, .int .u8 11, .int .u8 54, .int .u8 26, .int .u8 40, .int .u8 15, .int .u8 34, .int .u8 20, .int .u8 31, .int .u8 10, .int .u8 25, .int .u8 14, .int .u8 19, .int .u8 9, .int .u8 13, .int .u8 8, .int .u8 7, .int .u8 6]
def laid1 : List Value := [.int .u8 0, .int .u8 0, .int .u8 0, .int .u8 0, .int .u8 0, .int .u8 0, .int .u8 0, .int .u8 0, .int .u8 0, .int .u8 1, .int .u8 1, .int .u8 1, .int .u8 1, .int .u8 1, .int .u8 0, .int .u8 0, .int .u8 0, .int .u8 0, .int .u8 0, .int .u8 0, .int .u8 0, .int .u8 0, .int .u8 0, .int .u8 0, .int .u8 0, .int .u8 0, .int .u8 0, .int .u8 0, .int .u8 0, .int .u8 0, .int .u8 0, .int .u8 0, .int .u8 1, .int .u8 0, .int .u8 0, .int .u8 0, .int .u8 0, .int .u8 0, .int .u8 0, .int .u8 0, .int .u8 0, .int .u8 0, .int .u8 0, .int .u8 0, .int .u8 0, .int .u8 0, .int .u8 0, .int .u8 0, .int .u8 0, .int .u8 0, .int .u8 0, .int .u8 0, .int .u8 0, .int .u8 0, .int .u8 0, .int .u8 0, .int .u8 0, .int .u8 0, .int .u8 0, .int .u8 0, .int .u8 0, .int .u8 0, .int .u8 0, .int .u8 0, .int .u8 0, .int .u8 0, .int .u8 0, .int .u8 0, .int .u8 0, .int .u8 0, .int .u8 0, .int .u8 0, .int .u8 0, .int .u8 0, .int .u8 0, .int .u8 0, .int .u8 0, .int .u8 0, .int .u8 0, .int .u8 0, .int .u8 0, .int .u8 0, .int .u8 0, .int .u8 0, .int .u8 0, .int .u8 0, .int .u8 0, .int .u8 0, .int .u8 0, .int .u8 0, .int .u8 0, .int .u8 0, .int .u8 0, .int .u8 0, .int .u8 0, .int .u8 0, .int .u8 0, .int .u8 0, .int .u8 0, .int .u8 0, .int .u8 0, .int .u8 0, .int .u8 0, .int .u8 0, .int .u8 0, .int .u8 0, .int .u8 0, .int .u8 0, .int .u8 0, .int .u8 0, .int .u8 0, .int .u8 0, .int .u8 0, .int .u8 0, .int .u8 0, .int .u8 0, .int .u8 0, .int .u8 0, .int .u8 0, .int .u8 0, .int .u8 0, .int .u8 0, .int .u8 0, .int .u8 0, .int .u8 0, .int .u8 0, .int .u8 0, .int .u8 0, .int .u8 0, .int .u8 0, .int .u8 0, .int .u8 0, .int .u8 0, .int .u8 0, .int .u8 0, .int .u8 0, .int .u8 0, .int .u8 0, .int .u8 0, .int .u8 0, .int .u8 0, .int .u8 0, .int .u8 0, .int .u8 0, .int .u8 0, .int .u8 0, .int .u8 0, .int .u8 0, .int .u8 0, .int .u8 0, .int .u8 0, .int .u8 0, .int .u8 0, .int .u8 0, .int .u8 0, .int .u8 0, .int .u8 0, .int .u8 0, .int .u8 0, .int .u8 0, .int .u8 0, .int .u8 0, .int .u8 0, .int .u8 0, .int .u8 0, .int .u8 0, .int .u8 0, .int .u8 0, .int .u8 0, .int .u8 0, .int .u8 0, .int .u8 0, .int .u8 0, .int .u8 0, .int .u8 0, .int .u8 0, .int .u8 0, .int .u8 0, .int .u8 0, .int .u8 0, .int .u8 0, .int .u8 0, .int .u8 0, .int .u8 0, .int .u8 0, .int .u8 0, .int .u8 0, .int .u8 0, .int .u8 0, .int .u8 0, .int .u8 0, .int .u8 0, .int .u8 0, .int .u8 0, .int .u8 0, .int .u8 0, .int .u8 0, .int .u8 0, .int .u8 0, .int .u8 0, .int .u8 0, .int .u8 0, .int .u8 0, .int .u8 0, .int .u8 0, .int .u8 0, .int .u8 0, .int .u8 0, .int .u8 0, .int .u8 0, .int .u8 0, .int .u8 0, .int .u8 0, .int .u8 0, .int .u8 0, .int .u8 0, .int .u8 0, .int .u8 0, .int .u8 0, .int .u8 0, .int .u8 0, .int .u8 0, .int .u8 0, .int .u8 0, .int .u8 0, .int .u8 0, .int .u8 0, .int .u8 0, .int .u8 0, .int .u8 0, .int .u8 0, .int .u8 0, .int .u8 0, .int .u8 0, .int .u8 0, .int .u8 0, .int .u8 0, .int .u8 0, .int .u8 0, .int .u8 0, .int .u8 0, .int .u8 0, .int .u8 0, .int .u8 0, .int .u8 0, .int .u8 0, .int .u8 0, .int .u8 0, .int .u8 0, .int .u8 0, .int .u8 0, .int .u8 0, .int .u8 0, .int .u8 0, .int .u8 0, .int .u8 0]
def laid5 : List Value := [.int .u64 1, .int .u64 10, .int .u64 100, .int .u64 1000, .int .u64 10000, .int .u64 100000, .int .u64 1000000, .int .u64 10000000, .int .u64 100000000, .int .u64 1000000000, .int .u64 10000000000, .int .u64 100000000000, .int .u64 1000000000000, .int .u64 10000000000000, .int .u64 100000000000000, .int .u64 1000000000000000, .int .u64 10000000000000000, .int .u64 100000000000000000, .int .u64 1000000000000000000, .int .u64 10000000000000000000]
def laid7 : List Value := [.int .u8 0, .int .u8 1, .int .u8 28, .int .u8 2, .int .u8 29, .int .u8 14, .int .u8 24, .int .u8 3, .int .u8 30, .int .u8 22, .int .u8 20, .int .u8 15, .int .u8 25, .int .u8 17, .int .u8 4, .int .u8 8, .int .u8 31, .int .u8 27, .int .u8 13, .int .u8 23, .int .u8 21, .int .u8 19, .int .u8 16, .int .u8 7, .int .u8 26, .int .u8 12, .int .u8 18, .int .u8 6, .int .u8 11, .int .u8 5, .int .u8 10, .int .u8 9]
def laidL (g : Nat) : Option (List Value) :=
  if Nat.beq g 0 then some laid0 else if Nat.beq g 1 then some laid1 else if Nat.beq g 5 then some laid5 else if Nat.beq g 7 then some laid7 else none
end Go.AL
namespace Go.AL
inductive AVal where
  | junk
  | lit (v : Value)
  | str (l : List UInt8)
  | agg (cs : List AVal)
  | tuple (vs : List AVal)
  | ptr (a i off : Nat)
  | fptr (cs : List AVal) (off : Nat)
  | slice (a esz i len : Nat) (cap : Option Nat)
  | fslice (es : List (List AVal))
  | gs (tok esz : Nat) (es : List (List AVal))
  | eslice
  | func (fn : Fn) (first captured : List AVal)
  | yieldf (a : Nat)
  | iface (t : TypeId) (v : AVal)
  | map (a : Nat)
  | fmap (es : List (AVal × AVal))
  | iter (a : Nat)
  deriving Inhabited
structure Loc where
  b : Nat
  base : Nat
  esz : Nat
  size : Nat
  elem : TypeId
structure Ctx where
  μ : Nat → Option Loc
  τ : Nat → Nat → Option Loc
  fc : Nat → Nat → Option Value
  g : Nat → Option Obj
  glob : ∀ b l, laidL b = some l → ∀ (j : Nat) v, l[j]? = some v → fc b j = some v
  io : Os × Array (Nat × ByteArray)
structure Ctx.le (n : Nat) (C D : Ctx) : Prop where
  eq : ∀ a, a < n → D.μ a = C.μ a
  τ : ∀ a k L, a < n → C.τ a k = some L → D.τ a k = some L
  fc : ∀ b o v, C.fc b o = some v → D.fc b o = some v
  g : ∀ b o, C.g b = some o → D.g b = some o
  io : D.io = C.io
structure Ctx.sub (C D : Ctx) : Prop where
  μ : ∀ a L, C.μ a = some L → D.μ a = some L
  τ : ∀ a k L, C.τ a k = some L → D.τ a k = some L
  fc : ∀ b o v, C.fc b o = some v → D.fc b o = some v
  g : ∀ b o, C.g b = some o → D.g b = some o
  io : D.io = C.io
theorem Ctx.sub.refl (C : Ctx) : C.sub C := ⟨fun _ _ h => h, fun _ _ _ h => h, fun _ _ _ h => h, fun _ _ h => h, rfl⟩
theorem Ctx.sub.trans {C D E : Ctx} (h : C.sub D) (h' : D.sub E) : C.sub E :=
  ⟨fun a L x => h'.μ a L (h.μ a L x), fun a k L x => h'.τ a k L (h.τ a k L x), fun b o v x => h'.fc b o v (h.fc b o v x), fun b o x => h'.g b o (h.g b o x), h'.io.trans h.io⟩
theorem Ctx.le.μ {n : Nat} {C D : Ctx} (h : C.le n D) (a : Nat) (L : Loc) (ha : a < n) (hL : C.μ a = some L) : D.μ a = some L := (h.eq a ha).trans hL
theorem Ctx.le.refl (n : Nat) (C : Ctx) : C.le n C := ⟨fun _ _ => rfl, fun _ _ _ _ h => h, fun _ _ _ h => h, fun _ _ h => h, rfl⟩
theorem Ctx.le.trans {n : Nat} {C D E : Ctx} (h : C.le n D) (h' : D.le n E) : C.le n E :=
  ⟨fun a ha => (h'.eq a ha).trans (h.eq a ha), fun a k L ha x => h'.τ a k L ha (h.τ a k L ha x), fun b o v x => h'.fc b o v (h.fc b o v x), fun b o x => h'.g b o (h.g b o x), h'.io.trans h.io⟩
theorem Ctx.le.mono {m n : Nat} {C D : Ctx} (h : C.le n D) (hm : m ≤ n) : C.le m D := ⟨fun a ha => h.eq a (by omega), fun a k L ha x => h.τ a k L (by omega) x, h.fc, h.g, h.io⟩
def Ctx.Fresh (n : Nat) (C : Ctx) : Prop := ∀ a, n ≤ a → C.μ a = none ∧ ∀ k, C.τ a k = none
theorem Ctx.le.sub {n : Nat} {C D : Ctx} (h : C.le n D) (hf : C.Fresh n) : C.sub D := by
  refine ⟨fun a L hL => ?_, fun a k L hL => ?_, h.fc, h.g, h.io⟩
  · by_cases ha : a < n
    · exact h.μ a L ha hL
    · rw [(hf a (by omega)).1] at hL; cases hL
  · by_cases ha : a < n
    · exact h.τ a k L ha hL
    · rw [(hf a (by omega)).2] at hL; cases hL
theorem Ctx.sub.le' {n : Nat} {C D : Ctx} (h : C.sub D) (hμ : D.μ = C.μ) : C.le n D := ⟨fun a _ => by rw [hμ], fun a k L _ x => h.τ a k L x, h.fc, h.g, h.io⟩
inductive VRel (C : Ctx) : AVal → Value → Prop
  | junk (v : Value) : VRel C .junk v
  | lit (v : Value) : VRel C (.lit v) v
  | str (l : List UInt8) (s : ByteArray) (h : s.data.toList = l) : VRel C (.str l) (.string s)
  | agg (cs : List AVal) (rs : Array Value) (hn : cs.length = rs.size) (h : ∀ (i : Nat) v rv, cs[i]? = some v → rs[i]? = some rv → VRel C v rv) : VRel C (.agg cs) (.agg rs)
  | tuple (cs : List AVal) (rs : Array Value) (hn : cs.length = rs.size) (h : ∀ (i : Nat) v rv, cs[i]? = some v → rs[i]? = some rv → VRel C v rv) : VRel C (.tuple cs) (.tuple rs)
  | ptr (a i off : Nat) (L : Loc) (ha : C.μ a = some L) : VRel C (.ptr a i off) (.pointer (some ⟨L.b, L.base + i * L.esz + off, none⟩))
  | fptr (cs : List AVal) (off b base : Nat) (rc : Nat → Value) (hc : ∀ (j : Nat) v, cs[j]? = some v → C.fc b (base + j) = some (rc j))
      (h : ∀ (j : Nat) v, cs[j]? = some v → VRel C v (rc j)) : VRel C (.fptr cs off) (.pointer (some ⟨b, base + off, none⟩))
  | slice (a esz i len : Nat) (cap : Option Nat) (rcap : Nat) (L : Loc) (ha : C.μ a = some L) (hesz : L.esz = esz) (hcap : ∀ c, cap = some c → rcap = c) (hlen : len ≤ rcap)
      (hroom : L.base + (i + rcap) * L.esz ≤ L.size) : VRel C (.slice a esz i len cap) (.slice (some ⟨L.b, L.base + i * L.esz, none⟩) len rcap)
  | fslice (es : List (List AVal)) (b base esz rcap : Nat) (rc : Nat → Nat → Value) (hlen : es.length ≤ rcap) (hsz : ∀ (i : Nat) e, es[i]? = some e → e.length = esz)
      (hc : ∀ (i j : Nat) e v, es[i]? = some e → e[j]? = some v → C.fc b (base + i * esz + j) = some (rc i j))
      (h : ∀ (i j : Nat) e v, es[i]? = some e → e[j]? = some v → VRel C v (rc i j)) : VRel C (.fslice es) (.slice (some ⟨b, base, none⟩) es.length rcap)
  | fnil (p : Option Addr) : VRel C (.fslice []) (.slice p 0 0)
  | gs (tok esz : Nat) (es : List (List AVal)) (L : Loc) (rcap : Nat) (rc : Nat → Nat → Value) (hne : es ≠ []) (ht : C.τ tok es.length = some L) (hesz : L.esz = esz) (hlen : es.length ≤ rcap)
      (hroom : L.base + rcap * L.esz ≤ L.size) (hsz : ∀ (i : Nat) e, es[i]? = some e → e.length = L.esz)
      (hc : ∀ (i j : Nat) e v, es[i]? = some e → e[j]? = some v → C.fc L.b (L.base + i * L.esz + j) = some (rc i j))
      (h : ∀ (i j : Nat) e v, es[i]? = some e → e[j]? = some v → VRel C v (rc i j)) : VRel C (.gs tok esz es) (.slice (some ⟨L.b, L.base, none⟩) es.length rcap)
  | gnil (tok esz : Nat) : VRel C (.gs tok esz []) (.slice none 0 0)
  | eslice (p : Option Addr) : VRel C .eslice (.slice p 0 0)
  | func (fn : Fn) (first captured : List AVal) (rf rc : Array Value) (hf : first.length = rf.size) (hc : captured.length = rc.size)
      (h1 : ∀ (i : Nat) v rv, first[i]? = some v → rf[i]? = some rv → VRel C v rv) (h2 : ∀ (i : Nat) v rv, captured[i]? = some v → rc[i]? = some rv → VRel C v rv) :
      VRel C (.func fn first captured) (.func fn rf rc)
  | yieldf (a : Nat) (L : Loc) (ha : C.μ a = some L) : VRel C (.yieldf a) (.func (.yield L.b) #[] #[])
  | iface (t : TypeId) (v : AVal) (rv : Value) (h : VRel C v rv) : VRel C (.iface t v) (.iface t rv)
  | map (a : Nat) (L : Loc) (ha : C.μ a = some L) : VRel C (.map a) (.map (some L.b))
  | fmap (es : List (AVal × AVal)) (b : Nat) (ms : Array MapEntry) (clock : Nat) (hb : C.g b = some (.map ms clock)) (hn : es.length = ms.size)
      (h1 : ∀ (i : Nat) e m, es[i]? = some e → ms[i]? = some m → VRel C e.1 m.key) (h2 : ∀ (i : Nat) e m, es[i]? = some e → ms[i]? = some m → VRel C e.2 m.val) :
      VRel C (.fmap es) (.map (some b))
  | iter (a : Nat) (L : Loc) (ha : C.μ a = some L) : VRel C (.iter a) (.pointer (some ⟨L.b, 0, none⟩))
theorem VRel.mono {C D : Ctx} (hs : C.sub D) {v : AVal} {rv : Value} (h : VRel C v rv) : VRel D v rv := by
  induction h with
  | junk v => exact .junk v
  | lit v => exact .lit v
  | str l s h => exact .str l s h
  | agg cs rs hn _ ih => exact .agg cs rs hn ih
  | tuple cs rs hn _ ih => exact .tuple cs rs hn ih
  | ptr a i off L ha => exact .ptr a i off L (hs.μ _ _ ha)
  | fptr cs off b base rc hc _ ih => exact .fptr cs off b base rc (fun j v hj => hs.fc _ _ _ (hc j v hj)) ih
  | slice a esz i len cap rcap L ha hesz hcap hlen hroom => exact .slice a esz i len cap rcap L (hs.μ _ _ ha) hesz hcap hlen hroom
  | fslice es b base esz rcap rc hlen hsz hc _ ih => exact .fslice es b base esz rcap rc hlen hsz (fun i j e v h1 h2 => hs.fc _ _ _ (hc i j e v h1 h2)) ih
  | fnil p => exact .fnil p
  | gs tok esz es L rcap rc hne ht hesz hlen hroom hsz hc _ ih => exact .gs tok esz es L rcap rc hne (hs.τ _ _ _ ht) hesz hlen hroom hsz (fun i j e v h1 h2 => hs.fc _ _ _ (hc i j e v h1 h2)) ih
  | gnil tok esz => exact .gnil tok esz
  | eslice p => exact .eslice p
  | func fn first captured rf rc hf hc _ _ ih1 ih2 => exact .func fn first captured rf rc hf hc ih1 ih2
  | yieldf a L ha => exact .yieldf a L (hs.μ _ _ ha)
  | iface t v rv _ ih => exact .iface t v rv ih
  | map a L ha => exact .map a L (hs.μ _ _ ha)
  | fmap es b ms clock hb hn _ _ ih1 ih2 => exact .fmap es b ms clock (hs.g _ _ hb) hn ih1 ih2
  | iter a L ha => exact .iter a L (hs.μ _ _ ha)
inductive Below (n : Nat) : AVal → Prop
  | junk : Below n .junk
  | lit (v : Value) : Below n (.lit v)
  | str (l : List UInt8) : Below n (.str l)
  | agg (cs : List AVal) (h : ∀ (i : Nat) v, cs[i]? = some v → Below n v) : Below n (.agg cs)
  | tuple (cs : List AVal) (h : ∀ (i : Nat) v, cs[i]? = some v → Below n v) : Below n (.tuple cs)
  | ptr (a i off : Nat) (h : a < n) : Below n (.ptr a i off)
  | fptr (cs : List AVal) (off : Nat) (h : ∀ (i : Nat) v, cs[i]? = some v → Below n v) : Below n (.fptr cs off)
  | slice (a esz i len : Nat) (cap : Option Nat) (h : a < n) : Below n (.slice a esz i len cap)
  | fslice (es : List (List AVal)) (h : ∀ (i j : Nat) e v, es[i]? = some e → e[j]? = some v → Below n v) : Below n (.fslice es)
  | gs (tok esz : Nat) (es : List (List AVal)) (ht : tok < n) (h : ∀ (i j : Nat) e v, es[i]? = some e → e[j]? = some v → Below n v) : Below n (.gs tok esz es)
  | gnil (tok esz : Nat) : Below n (.gs tok esz [])
  | eslice : Below n .eslice
  | func (fn : Fn) (first captured : List AVal) (h1 : ∀ (i : Nat) v, first[i]? = some v → Below n v) (h2 : ∀ (i : Nat) v, captured[i]? = some v → Below n v) : Below n (.func fn first captured)
  | yieldf (a : Nat) (h : a < n) : Below n (.yieldf a)
  | iface (t : TypeId) (v : AVal) (h : Below n v) : Below n (.iface t v)
  | map (a : Nat) (h : a < n) : Below n (.map a)
  | fmap (es : List (AVal × AVal)) (h1 : ∀ (i : Nat) e, es[i]? = some e → Below n e.1) (h2 : ∀ (i : Nat) e, es[i]? = some e → Below n e.2) : Below n (.fmap es)
  | iter (a : Nat) (h : a < n) : Below n (.iter a)
theorem Below.mono {m n : Nat} (hm : m ≤ n) {v : AVal} (h : Below m v) : Below n v := by
  induction h with
  | junk => exact .junk
  | lit v => exact .lit v
  | str l => exact .str l
  | agg cs _ ih => exact .agg cs ih
  | tuple cs _ ih => exact .tuple cs ih
  | ptr a i off h => exact .ptr a i off (by omega)
  | fptr cs off _ ih => exact .fptr cs off ih
  | slice a esz i len cap h => exact .slice a esz i len cap (by omega)
  | fslice es _ ih => exact .fslice es ih
  | gs tok esz es ht _ ih => exact .gs tok esz es (by omega) ih
  | gnil tok esz => exact .gnil tok esz
  | eslice => exact .eslice
  | func fn f c _ _ i1 i2 => exact .func fn f c i1 i2
  | yieldf a h => exact .yieldf a (by omega)
  | iface t v _ ih => exact .iface t v ih
  | map a h => exact .map a (by omega)
  | fmap es _ _ i1 i2 => exact .fmap es i1 i2
  | iter a h => exact .iter a (by omega)
def Ctx.cut (n : Nat) (C : Ctx) : Ctx := { C with μ := fun a => if a < n then C.μ a else none, τ := fun a k => if a < n then C.τ a k else none }
theorem Ctx.cut_le (n : Nat) (C : Ctx) : C.le n (C.cut n) := ⟨fun a h => by simp [Ctx.cut, h], fun a k L h x => by simp [Ctx.cut, h, x], fun _ _ _ h => h, fun _ _ h => h, rfl⟩
theorem VRel.le {n : Nat} {C D : Ctx} (hs : C.le n D) {v : AVal} (hv : Below n v) : ∀ {rv : Value}, VRel C v rv → VRel D v rv := by
  induction hv with
  | junk => intro rv h; exact .junk rv
  | lit v => intro rv h; cases h; exact .lit v
  | str l => intro rv h; cases h with | str _ s e => exact .str l s e
  | agg cs _ ih => intro rv h; cases h with | agg _ rs hn h => exact .agg cs rs hn fun i v rv h1 h2 => ih i v h1 (h i v rv h1 h2)
  | tuple cs _ ih => intro rv h; cases h with | tuple _ rs hn h => exact .tuple cs rs hn fun i v rv h1 h2 => ih i v h1 (h i v rv h1 h2)
  | ptr a i off hl => intro rv h; cases h with | ptr _ _ _ L ha => exact .ptr a i off L (hs.μ _ _ hl ha)
  | fptr cs off _ ih => intro rv h; cases h with | fptr _ _ b base rc hc h => exact .fptr cs off b base rc (fun j v hj => hs.fc _ _ _ (hc j v hj)) fun j v hj => ih j v hj (h j v hj)
  | slice a esz i len cap hl => intro rv h; cases h with | slice _ _ _ _ _ rcap L ha hesz hcap hlen hroom => exact .slice a esz i len cap rcap L (hs.μ _ _ hl ha) hesz hcap hlen hroom
  | fslice es _ ih =>
    intro rv h
    cases h with
    | fslice _ b base esz rcap rc hlen hsz hc h => exact .fslice es b base esz rcap rc hlen hsz (fun i j e v h1 h2 => hs.fc _ _ _ (hc i j e v h1 h2)) fun i j e v h1 h2 => ih i j e v h1 h2 (h i j e v h1 h2)
    | fnil p => exact .fnil p
  | gs tok esz es htk _ ih =>
    intro rv h
    cases h with
    | gs _ _ _ L rcap rc hne ht hesz hlen hroom hsz hc h => exact .gs tok esz es L rcap rc hne (hs.τ _ _ _ htk ht) hesz hlen hroom hsz (fun i j e v h1 h2 => hs.fc _ _ _ (hc i j e v h1 h2)) fun i j e v h1 h2 => ih i j e v h1 h2 (h i j e v h1 h2)
    | gnil => exact .gnil tok esz
  | gnil tok esz =>
    intro rv h
    cases h with
    | gs _ _ _ L rcap rc hne => exact absurd rfl hne
    | gnil => exact .gnil tok esz
  | eslice => intro rv h; cases h; exact .eslice _
  | func fn f c _ _ i1 i2 => intro rv h; cases h with | func _ _ _ rf rc hf hc h1 h2 => exact .func fn f c rf rc hf hc (fun i v rv a b => i1 i v a (h1 i v rv a b)) (fun i v rv a b => i2 i v a (h2 i v rv a b))
  | yieldf a hl => intro rv h; cases h with | yieldf _ L ha => exact .yieldf a L (hs.μ _ _ hl ha)
  | iface t v _ ih => intro rv h; cases h with | iface _ _ rv h => exact .iface t v rv (ih h)
  | map a hl => intro rv h; cases h with | map _ L ha => exact .map a L (hs.μ _ _ hl ha)
  | fmap es _ _ i1 i2 => intro rv h; cases h with | fmap _ b ms clock hb hn h1 h2 => exact .fmap es b ms clock (hs.g _ _ hb) hn (fun i e m a b => i1 i e a (h1 i e m a b)) (fun i e m a b => i2 i e a (h2 i e m a b))
  | iter a hl => intro rv h; cases h with | iter _ L ha => exact .iter a L (hs.μ _ _ hl ha)
inductive ATab where
  | nil
  | node (l : ATab) (v : AVal) (r : ATab)
  deriving Inhabited
noncomputable def ATab.get (t : ATab) : Nat → AVal :=
  ATab.rec (fun _ => .junk) (fun _ v _ gl gr i => Bool.rec (Bool.rec (gl (Nat.div i 2)) (gr (Nat.sub (Nat.div i 2) 1)) (Nat.beq (Nat.mod i 2) 0)) v (Nat.beq i 0)) t
def ATab.lft : ATab → ATab | .nil => .nil | .node l _ _ => l
def ATab.rgt : ATab → ATab | .nil => .nil | .node _ _ r => r
def ATab.top : ATab → AVal | .nil => .junk | .node _ v _ => v
noncomputable def ATab.setF (k : Nat) : ATab → Nat → AVal → ATab :=
  Nat.rec (fun t _ _ => t) (fun _ f t i v =>
    ATab.rec (Bool.rec (Bool.rec (.node (f .nil (Nat.div i 2) v) .junk .nil) (.node .nil .junk (f .nil (Nat.sub (Nat.div i 2) 1) v)) (Nat.beq (Nat.mod i 2) 0)) (.node .nil v .nil) (Nat.beq i 0))
      (fun l u r _ _ => Bool.rec (Bool.rec (.node (f l (Nat.div i 2) v) u r) (.node l u (f r (Nat.sub (Nat.div i 2) 1) v)) (Nat.beq (Nat.mod i 2) 0)) (.node l v r) (Nat.beq i 0)) t) k
theorem ATab.setF_succ (k : Nat) (t : ATab) (i : Nat) (v : AVal) : ATab.setF (k + 1) t i v = match Nat.beq i 0 with
    | true => .node t.lft v t.rgt
    | false => match Nat.beq (i % 2) 0 with
      | true => .node t.lft t.top (ATab.setF k t.rgt (i / 2 - 1) v)
      | false => .node (ATab.setF k t.lft (i / 2) v) t.top t.rgt := by
  cases t <;> (show _ = _; unfold ATab.setF; simp only []; cases Nat.beq i 0 <;> simp only [] <;> first | rfl | (cases h : Nat.beq (i % 2) 0 <;> (have h' : Nat.beq (Nat.mod i 2) 0 = _ := h; simp only [h']; rfl)))
noncomputable def ATab.set (t : ATab) (i : Nat) (v : AVal) : ATab := ATab.setF (i + 1) t i v
theorem ATab.get_zero (t : ATab) : t.get 0 = t.top := by cases t <;> rfl
theorem ATab.get_even (t : ATab) (j : Nat) : t.get (2 * j + 2) = t.rgt.get j := by
  cases t with
  | nil => rfl
  | node l v r =>
    have h1 : Nat.beq (2 * j + 2) 0 = false := rfl
    have h2 : (2 * j + 2) % 2 = 0 := by omega
    have h3 : (2 * j + 2) / 2 - 1 = j := by omega
    show Bool.rec (motive := fun _ => AVal) (Bool.rec (motive := fun _ => AVal) (l.get ((2 * j + 2) / 2)) (r.get ((2 * j + 2) / 2 - 1)) (Nat.beq ((2 * j + 2) % 2) 0)) v (Nat.beq (2 * j + 2) 0) = r.get j
    rw [h1, h2, h3]; rfl
theorem ATab.get_odd (t : ATab) (j : Nat) : t.get (2 * j + 1) = t.lft.get j := by
  cases t with
  | nil => rfl
  | node l v r =>
    have h1 : Nat.beq (2 * j + 1) 0 = false := rfl
    have h2 : (2 * j + 1) % 2 = 1 := by omega
    have h3 : (2 * j + 1) / 2 = j := by omega
    show Bool.rec (motive := fun _ => AVal) (Bool.rec (motive := fun _ => AVal) (l.get ((2 * j + 1) / 2)) (r.get ((2 * j + 1) / 2 - 1)) (Nat.beq ((2 * j + 1) % 2) 0)) v (Nat.beq (2 * j + 1) 0) = l.get j
    rw [h1, h2, h3]; rfl
theorem ATab.get_setF : ∀ (k : Nat) (t : ATab) (i j : Nat) (v : AVal), i < k → (ATab.setF k t i v).get j = if i = j then v else t.get j := by
  intro k
  induction k with
  | zero => intro t i j v h; omega
  | succ k ih =>
    intro t i j v h
    have three : ∀ m : Nat, m = 0 ∨ (∃ q, m = 2 * q + 1) ∨ ∃ q, m = 2 * q + 2 := by
      intro m
      rcases Nat.eq_zero_or_pos m with h | h
      · exact .inl h
      · rcases Nat.mod_two_eq_zero_or_one m with e | e
        · exact .inr (.inr ⟨m / 2 - 1, by omega⟩)
        · exact .inr (.inl ⟨m / 2, by omega⟩)
    rcases three i with rfl | ⟨q, rfl⟩ | ⟨q, rfl⟩
    · simp only [ATab.setF_succ, show Nat.beq 0 0 = true from rfl]
      rcases three j with rfl | ⟨p, rfl⟩ | ⟨p, rfl⟩
      · rfl
      · rw [if_neg (by omega), ATab.get_odd, ATab.get_odd]; rfl
      · rw [if_neg (by omega), ATab.get_even, ATab.get_even]; rfl
    · have h1 : Nat.beq (2 * q + 1) 0 = false := rfl
      have h2 : (2 * q + 1) % 2 = 1 := by omega
      have h3 : (2 * q + 1) / 2 = q := by omega
      simp only [ATab.setF_succ, h1, h2, h3, show Nat.beq 1 0 = false from rfl]
      rcases three j with rfl | ⟨p, rfl⟩ | ⟨p, rfl⟩
      · rw [if_neg (by omega), ATab.get_zero, ATab.get_zero]; rfl
      · rw [ATab.get_odd, ATab.get_odd]
        show (ATab.setF k t.lft q v).get p = _
        rw [ih _ _ _ _ (by omega)]
        by_cases e : q = p
        · rw [if_pos e, if_pos (by omega)]
        · rw [if_neg e, if_neg (by omega)]
      · rw [if_neg (by omega), ATab.get_even, ATab.get_even]; rfl
    · have h1 : Nat.beq (2 * q + 2) 0 = false := rfl
      have h2 : (2 * q + 2) % 2 = 0 := by omega
      have h3 : (2 * q + 2) / 2 - 1 = q := by omega
      simp only [ATab.setF_succ, h1, h2, h3, show Nat.beq 0 0 = true from rfl]
      rcases three j with rfl | ⟨p, rfl⟩ | ⟨p, rfl⟩
      · rw [if_neg (by omega), ATab.get_zero, ATab.get_zero]; rfl
      · rw [if_neg (by omega), ATab.get_odd, ATab.get_odd]; rfl
      · rw [ATab.get_even, ATab.get_even]
        show (ATab.setF k t.rgt q v).get p = _
        rw [ih _ _ _ _ (by omega)]
        by_cases e : q = p
        · rw [if_pos e, if_pos (by omega)]
        · rw [if_neg e, if_neg (by omega)]
theorem ATab.get_set {t : ATab} {i j : Nat} {v : AVal} : (t.set i v).get j = if i = j then v else t.get j := ATab.get_setF _ _ _ _ _ (by omega)
theorem ATab.get_nil {i : Nat} : ATab.get .nil i = .junk := rfl
structure TRel (C : Ctx) (n : Nat) (t : ATab) (a : Array Value) : Prop where
  size : a.size = n
  val : ∀ i, VRel C (t.get i) (a.getD i undef)
theorem TRel.mono {C D : Ctx} (hs : C.sub D) {n : Nat} {t : ATab} {a : Array Value} (h : TRel C n t a) : TRel D n t a := ⟨h.size, fun i => (h.val i).mono hs⟩
inductive AObj where
  | rows (es : List (List AVal))
  | tok (esz n : Nat)
  | map (es : List (AVal × AVal))
  | loop (n : Nat) (t : ATab) (params : Array Tmp) (assign body : Code) (st : LoopState) (pending : Option Code) (defd : Nat)
  | defd
  | siter (s : ByteArray) (pos : Nat)
abbrev AHeap := List (Option AObj)
def hget (h : AHeap) (a : Nat) : Option AObj := (h[a]?).join
def hset (h : AHeap) (a : Nat) (o : AObj) : AHeap := h.set a (some o)
inductive OBelow (n : Nat) : AObj → Prop
  | rows (es : List (List AVal)) (h : ∀ (i j : Nat) e v, es[i]? = some e → e[j]? = some v → Below n v) : OBelow n (.rows es)
  | tok (esz k : Nat) : OBelow n (.tok esz k)
  | map (es : List (AVal × AVal)) (h : ∀ (i : Nat) e, es[i]? = some e → Below n e.1 ∧ Below n e.2) : OBelow n (.map es)
  | loop (k : Nat) (t : ATab) (params : Array Tmp) (assign body : Code) (st : LoopState) (pending : Option Code) (defd : Nat) (h : ∀ i, Below n (t.get i)) (hd : defd < n) :
      OBelow n (.loop k t params assign body st pending defd)
  | defd : OBelow n .defd
  | siter (s : ByteArray) (pos : Nat) : OBelow n (.siter s pos)
structure RowsRel (C : Ctx) (L : Loc) (es : List (List AVal)) (c : Array Value) : Prop where
  size : c.size = L.size
  len : ∀ (i : Nat) e, es[i]? = some e → e.length = L.esz
  room : L.base + es.length * L.esz ≤ L.size
  cell : ∀ (i j : Nat) e v, es[i]? = some e → e[j]? = some v → ∃ rv, c[L.base + i * L.esz + j]? = some rv ∧ VRel C v rv ∧ rv.oneCell' = true
def ORel (C : Ctx) (L : Loc) : AObj → Obj → Prop
  | .rows es, o => ∃ c, o = .cells c L.elem (0, 0) ∧ RowsRel C L es c
  | .tok esz _, o => ∃ c, o = .cells c L.elem (0, 0) ∧ c.size = L.size ∧ L.esz = esz
  | .map es, o => ∃ ms clock, o = .map ms clock ∧ es.length = ms.size ∧ ∀ (i : Nat) e m, es[i]? = some e → ms[i]? = some m → VRel C e.1 m.key ∧ VRel C e.2 m.val
  | .loop n t params assign body st pending defd, o => ∃ fn rt Ld, C.μ defd = some Ld ∧
      o = .loop { state := st, pending, fn, tmps := rt, params, assign, body, defers := Ld.b } ∧ TRel C n t rt
  | .defd, o => o = .deferred (some [])
  | .siter s pos, o => o = .stringIter s pos
def liveFrom (L : Loc) : AObj → Nat
  | .tok _ n => L.base + n * L.esz
  | _ => 0
def locOf (C : Ctx) (a : Nat) : AObj → Option Loc
  | .tok _ n => C.τ a n
  | _ => C.μ a
structure HRel (C : Ctx) (h : AHeap) (w : World) : Prop where
  cells : ∀ b o v, C.fc b o = some v → w.cell? ⟨b, o, none⟩ = some v ∧ v.oneCell' = true
  frozen : ∀ b o, C.g b = some o → w.heap[b]? = some o
  live : ∀ a o L, hget h a = some o → locOf C a o = some L → C.g L.b = none ∧ (∀ q, liveFrom L o ≤ q → C.fc L.b q = none) ∧ ∃ r, w.heap[L.b]? = some r ∧ ORel C L o r
  inj : ∀ a a' o o' L L', hget h a = some o → hget h a' = some o' → locOf C a o = some L → locOf C a' o' = some L' → L.b = L'.b → a = a'
  fresh : C.Fresh h.length
  there : ∀ a L, C.μ a = some L → L.b < w.heap.size
  thereτ : ∀ a k L, C.τ a k = some L → L.b < w.heap.size
  top : ∀ a e n, hget h a = some (.tok e n) → ∀ m, n < m → C.τ a m = none
  io : (w.os, w.output) = C.io
theorem ORel.mono {C D : Ctx} (hs : C.sub D) {L : Loc} {o : AObj} {r : Obj} (h : ORel C L o r) : ORel D L o r := by
  cases o with
  | rows es => obtain ⟨c, rfl, hr⟩ := h; exact ⟨c, rfl, hr.size, hr.len, hr.room, fun i j e v h1 h2 => let ⟨rv, a, b, d⟩ := hr.cell i j e v h1 h2; ⟨rv, a, b.mono hs, d⟩⟩
  | tok esz k => exact h
  | map es => obtain ⟨ms, clock, rfl, hn, hr⟩ := h; exact ⟨ms, clock, rfl, hn, fun i e m h1 h2 => let ⟨a, b⟩ := hr i e m h1 h2; ⟨a.mono hs, b.mono hs⟩⟩
  | loop n t params assign body st pending defd => obtain ⟨fn, rt, Ld, hd, rfl, hr⟩ := h; exact ⟨fn, rt, Ld, hs.μ _ _ hd, rfl, hr.mono hs⟩
  | defd => exact h
  | siter s pos => exact h
theorem ORel.le {n : Nat} {C D : Ctx} (hs : C.le n D) {L : Loc} {o : AObj} {r : Obj} (hb : OBelow n o) (h : ORel C L o r) : ORel D L o r := by
  cases hb with
  | rows es hb => obtain ⟨c, rfl, hr⟩ := h; exact ⟨c, rfl, hr.size, hr.len, hr.room, fun i j e v h1 h2 => let ⟨rv, a, b, d⟩ := hr.cell i j e v h1 h2; ⟨rv, a, b.le hs (hb i j e v h1 h2), d⟩⟩
  | tok esz k => exact h
  | map es hb => obtain ⟨ms, clock, rfl, hn, hr⟩ := h; exact ⟨ms, clock, rfl, hn, fun i e m h1 h2 => let ⟨a, b⟩ := hr i e m h1 h2; ⟨a.le hs (hb i e h1).1, b.le hs (hb i e h1).2⟩⟩
  | loop k t params assign body st pending defd hb hd => obtain ⟨fn, rt, Ld, hd', rfl, hr⟩ := h; exact ⟨fn, rt, Ld, hs.μ _ _ hd hd', rfl, hr.size, fun i => (hr.val i).le hs (hb i)⟩
  | defd => exact h
  | siter s pos => exact h
end Go.AL
namespace Go.AL
inductive ADef where
  | mark (a : Nat)
  | call (fn : Fn) (captured args : List AVal)
structure ASt where
  n : Nat
  t : ATab
  d : List ADef
  h : AHeap
def VRels (C : Ctx) (cs : List AVal) (rs : Array Value) : Prop :=
  cs.length = rs.size ∧ ∀ (i : Nat) v rv, cs[i]? = some v → rs[i]? = some rv → VRel C v rv
theorem VRels.mono {C D : Ctx} (hs : C.sub D) {cs : List AVal} {rs : Array Value} (h : VRels C cs rs) : VRels D cs rs :=
  ⟨h.1, fun i v rv a b => (h.2 i v rv a b).mono hs⟩
def DRel (C : Ctx) : ADef → Deferred → Prop
  | .mark a, d => ∃ L, C.μ a = some L ∧ d = { target := .collected L.b, args := #[] }
  | .call fn cap args, d => ∃ rc ra, d = { target := .fn fn rc, args := ra } ∧ VRels C cap rc ∧ VRels C args ra
theorem DRel.mono {C D : Ctx} (hs : C.sub D) {x : ADef} {d : Deferred} (h : DRel C x d) : DRel D x d := by
  cases x with
  | mark a => obtain ⟨L, h, e⟩ := h; exact ⟨L, hs.μ _ _ h, e⟩
  | call fn cap args => obtain ⟨rc, ra, e, h1, h2⟩ := h; exact ⟨rc, ra, e, h1.mono hs, h2.mono hs⟩
def DRels (C : Ctx) : List ADef → List Deferred → Prop
  | [], [] => True
  | x :: xs, d :: ds => DRel C x d ∧ DRels C xs ds
  | _, _ => False
theorem DRels.mono {C D : Ctx} (hs : C.sub D) : ∀ {xs : List ADef} {ds : List Deferred}, DRels C xs ds → DRels D xs ds
  | [], [], _ => trivial
  | _ :: _, _ :: _, h => ⟨h.1.mono hs, h.2.mono hs⟩
  | [], _ :: _, h => h.elim
  | _ :: _, [], h => h.elim
structure StRel (C : Ctx) (s : ASt) (a : Act) (w : World) : Prop where
  t : TRel C s.n s.t a.tmps
  d : DRels C s.d a.defers
  h : HRel C s.h w
def AFence (ro : Option Nat) : Fence := { Fence.wide with round := ro }
theorem AFence.none_eq : AFence none = Fence.wide := rfl
theorem AFence.some_eq (l : Nat) : AFence (some l) = Fence.wide.inRound l := rfl
def MRel (n0 : Nat) (C : Ctx) (md : Option Nat) (ro : Option Nat) : Prop :=
  match md with
  | none => ro = none
  | some k => k < n0 ∧ ∃ L, C.μ k = some L ∧ ro = some L.b
theorem MRel.le {n0 : Nat} {C D : Ctx} (hs : C.le n0 D) {md ro : Option Nat} (h : MRel n0 C md ro) : MRel n0 D md ro := by
  cases md with
  | none => exact h
  | some k => obtain ⟨hk, L, hL, e⟩ := h; exact ⟨hk, L, hs.μ _ _ hk hL, e⟩
def Post (n0 : Nat) (C : Ctx) (Q : Exit → ASt → Prop) (e : Exit) (a : Act) (w : World) : Prop :=
  ∃ D s, C.le n0 D ∧ StRel D s a w ∧ n0 ≤ s.h.length ∧ Q e s
theorem Post.of_le {n0 : Nat} {C D : Ctx} (hs : C.le n0 D) {Q : Exit → ASt → Prop} {e : Exit} {a : Act} {w : World} (h : Post n0 D Q e a w) : Post n0 C Q e a w :=
  let ⟨E, s, h1, h2, h3⟩ := h; ⟨E, s, hs.trans h1, h2, h3⟩
def AWp (P : Program) (n0 : Nat) (md : Option Nat) (c : Code) (Q : Exit → ASt → Prop) (s : ASt) : Prop :=
  ∀ C a w ro, StRel C s a w → MRel n0 C md ro → n0 ≤ s.h.length → c.wpIn (AFence ro) 0 P (Post n0 C Q) a w
section
variable {P : Program} {n0 : Nat} {md : Option Nat} {Q : Exit → ASt → Prop} {s : ASt}
theorem AWp.mono {c : Code} {Q' : Exit → ASt → Prop} (h : AWp P n0 md c Q s) (hq : ∀ e s, Q e s → Q' e s) : AWp P n0 md c Q' s :=
  fun C a w ro hs hm hn => wpIn_mono (h C a w ro hs hm hn) fun _ _ _ ⟨D, s, h1, h2, h4, h3⟩ => ⟨D, s, h1, h2, h4, hq _ _ h3⟩
theorem awp_skip (h : Q .normal s) : AWp P n0 md .skip Q s :=
  fun C _ _ _ hs _ hn => wpIn_skip ⟨C, s, .refl _ _, hs, hn, h⟩
theorem awp_label {l : Nat} (h : Q .normal s) : AWp P n0 md (.label l) Q s :=
  fun C _ _ _ hs _ hn => wpIn_label ⟨C, s, .refl _ _, hs, hn, h⟩
theorem awp_exit {id : Nat} (h : Q (.exit id) s) : AWp P n0 md (.exit id) Q s :=
  fun C _ _ _ hs _ hn => wpIn_exit ⟨C, s, .refl _ _, hs, hn, h⟩
theorem awp_ret (h : Q .ret s) : AWp P n0 md .ret Q s :=
  fun C _ _ _ hs _ hn => wpIn_ret ⟨C, s, .refl _ _, hs, hn, h⟩
def Then (K : ASt → Prop) (Q : Exit → ASt → Prop) : Exit → ASt → Prop
  | .normal, s => K s
  | e, s => Q e s
theorem awp_seq {x y : Code} (h : AWp P n0 md x (Then (AWp P n0 md y Q) Q) s) : AWp P n0 md (.seq x y) Q s := by
  intro C a w ro hs hm hn
  refine wpIn_seq (wpIn_mono (h C a w ro hs hm hn) ?_)
  rintro e a' w' ⟨D, s', hle, hs', hn', hq⟩
  cases e with
  | normal => exact wpIn_mono (hq D a' w' ro hs' (hm.le hle) hn') fun _ _ _ hp => hp.of_le hle
  | exit id => exact ⟨D, s', hle, hs', hn', hq⟩
  | goto l => exact ⟨D, s', hle, hs', hn', hq⟩
  | ret => exact ⟨D, s', hle, hs', hn', hq⟩
  | panic ch => exact ⟨D, s', hle, hs', hn', hq⟩
  | outgrown => exact ⟨D, s', hle, hs', hn', hq⟩
inductive AOpd where
  | t (i : Nat)
  | v (x : AVal)
noncomputable def ASt.ev (s : ASt) : AOpd → AVal
  | .t i => s.t.get i
  | .v x => x
def absV : Value → AVal
  | .string s => .str s.data.toList
  | v => .lit v
theorem absV_rel (C : Ctx) (v : Value) : VRel C (absV v) v := by
  cases v <;> first | exact .str _ _ rfl | exact .lit _
def globA (g : Nat) : AVal :=
  match laidL g with
  | some l => .fptr (l.map .lit) 0
  | none => .lit (.pointer (some ⟨g, 0, none⟩))
theorem globA_rel (C : Ctx) (g : Nat) : VRel C (globA g) (.pointer (some ⟨g, 0, none⟩)) := by
  unfold globA
  split
  · rename_i l hl
    have : (⟨g, 0, none⟩ : Addr) = ⟨g, 0 + 0, none⟩ := rfl
    rw [this]
    refine .fptr _ 0 g 0 (fun j => (l[j]?).getD undef) (fun j v hj => ?_) (fun j v hj => ?_)
    · simp only [List.getElem?_map, Option.map_eq_some_iff] at hj
      obtain ⟨x, hx, rfl⟩ := hj
      rw [Nat.zero_add, hx]; exact C.glob g l hl j x hx
    · simp only [List.getElem?_map, Option.map_eq_some_iff] at hj
      obtain ⟨x, hx, rfl⟩ := hj
      rw [hx]; exact .lit _
  · exact .lit _
def opdOf : Operand → AOpd
  | .tmp i => .t i
  | .const (.string s) => .v (.str s.data.toList)
  | .const (.agg cs) => .v (.agg (cs.toList.map absV))
  | .const v => .v (.lit v)
  | .global g => .v (globA g)
  | .func f => .v (.func (.func f) [] [])
theorem opdOf_rel {C : Ctx} {a : Act} {w : World} (h : StRel C s a w) (x : Operand) : VRel C (s.ev (opdOf x)) (a.eval x) := by
  cases x with
  | tmp i => exact h.t.val i
  | const v =>
    cases v with
    | agg cs =>
      refine .agg _ cs (by simp) fun i v rv h1 h2 => ?_
      simp only [List.getElem?_map] at h1
      simp only [Array.getElem?_toList] at h1
      rw [h2] at h1
      cases h1
      exact absV_rel C _
    | string s => exact .str _ s rfl
    | _ => exact .lit _
  | global g => exact globA_rel C g
  | func f => exact .func _ [] [] #[] #[] rfl rfl (fun i v rv h1 => by simp at h1) (fun i v rv h1 => by simp at h1)
theorem awp_cond {c : Operand} {x y : Code} (b : Bool) (hc : s.ev (opdOf c) = .lit (.bool b)) (ht : b = true → AWp P n0 md x Q s) (hf : b = false → AWp P n0 md y Q s) : AWp P n0 md (.cond c x y) Q s := by
  intro C a w ro hs hm hn
  have hr := opdOf_rel hs c
  rw [hc] at hr
  have he : a.eval c = .bool b := by
    generalize hv : a.eval c = rv at hr
    cases hr; rfl
  exact wpIn_cond_split he (fun h => ht h C a w ro hs hm hn) (fun h => hf h C a w ro hs hm hn)
def InBlock (id : Nat) (Q : Exit → ASt → Prop) : Exit → ASt → Prop
  | .exit id', s => if id' = id then Q .normal s else Q (.exit id') s
  | e, s => Q e s
theorem awp_block {id : Nat} {c : Code} (h : AWp P n0 md c (InBlock id Q) s) : AWp P n0 md (.block id c) Q s := by
  intro C a w ro hs hm hn
  refine wpIn_block (wpIn_mono (h C a w ro hs hm hn) ?_)
  rintro e a' w' ⟨D, s', hle, hs', hn', hq⟩
  cases e with
  | exit id' =>
    simp only [InBlock, Exit.inBlock] at hq ⊢
    split at hq
    · rename_i he; rw [if_pos he]; exact ⟨D, s', hle, hs', hn', hq⟩
    · rename_i he; rw [if_neg he]; exact ⟨D, s', hle, hs', hn', hq⟩
  | normal => exact ⟨D, s', hle, hs', hn', hq⟩
  | goto l => exact ⟨D, s', hle, hs', hn', hq⟩
  | ret => exact ⟨D, s', hle, hs', hn', hq⟩
  | panic ch => exact ⟨D, s', hle, hs', hn', hq⟩
  | outgrown => exact ⟨D, s', hle, hs', hn', hq⟩
theorem least {J : Nat → Prop} : ∀ k, J k → ∃ m, J m ∧ ∀ j, J j → m ≤ j := by
  intro k
  induction k using Nat.strongRecOn with
  | _ k ih =>
    intro hk
    by_cases h : ∃ j, j < k ∧ J j
    · obtain ⟨j, hj, hJ⟩ := h; exact ih j hj hJ
    · exact ⟨k, hk, fun j hj => Nat.le_of_not_lt fun hlt => h ⟨j, hlt, hj⟩⟩
theorem awp_loop {c : Code} (I : Nat → ASt → Prop) (k0 : Nat) (h0 : I k0 s)
    (round : ∀ k s, I k s → AWp P n0 md c (Then (fun s' => ∃ k', k' < k ∧ I k' s') Q) s) : AWp P n0 md (.loop c) Q s := by
  intro C a w ro hs hm hn
  let J : Nat → Act → World → Prop := fun k a w => ∃ D s, C.le n0 D ∧ StRel D s a w ∧ MRel n0 D md ro ∧ n0 ≤ s.h.length ∧ I k s
  have hleast : ∀ a w, (∃ k, J k a w) → ∃ m, J m a w ∧ ∀ j, J j a w → m ≤ j := fun a w ⟨k, hk⟩ => least (J := fun k => J k a w) k hk
  let m : Act → World → Nat := fun a w => open Classical in if h : ∃ k, J k a w then (hleast a w h).choose else 0
  have hm0 : ∀ a w, (∃ k, J k a w) → J (m a w) a w ∧ ∀ j, J j a w → m a w ≤ j := by
    intro a w h
    have : m a w = (hleast a w h).choose := by simp only [m]; rw [dif_pos h]
    rw [this]; exact (hleast a w h).choose_spec
  refine wpIn_loop (fun a w => ∃ k, J k a w) m ⟨k0, C, s, .refl _ _, hs, hm, hn, h0⟩ ?_
  rintro a w hex
  have hk : J (m a w) a w := (hm0 a w hex).1
  obtain ⟨D, s1, hle, hs1, hm1, hn1, hI⟩ := hk
  refine wpIn_mono (round _ s1 hI D a w ro hs1 hm1 hn1) ?_
  rintro e a' w' ⟨E, s', hle', hs', hn', hq⟩
  cases e with
  | normal =>
    obtain ⟨k', hlt, hI'⟩ := hq
    have hJ : J k' a' w' := ⟨E, s', hle.trans hle', hs', hm1.le hle', hn', hI'⟩
    exact ⟨⟨k', hJ⟩, Nat.lt_of_le_of_lt ((hm0 a' w' ⟨k', hJ⟩).2 k' hJ) hlt⟩
  | exit id => exact ⟨E, s', hle.trans hle', hs', hn', hq⟩
  | goto l => exact ⟨E, s', hle.trans hle', hs', hn', hq⟩
  | ret => exact ⟨E, s', hle.trans hle', hs', hn', hq⟩
  | panic ch => exact ⟨E, s', hle.trans hle', hs', hn', hq⟩
  | outgrown => exact ⟨E, s', hle.trans hle', hs', hn', hq⟩
/-! ### What may be done to the picture alone -/
def Weaker (n0 : Nat) (s s' : ASt) : Prop := ∀ C a w, StRel C s a w → n0 ≤ s.h.length → ∃ D, C.le n0 D ∧ StRel D s' a w ∧ n0 ≤ s'.h.length
theorem AWp.weaken {c : Code} {s' : ASt} (hw : Weaker n0 s s') (h : AWp P n0 md c Q s') : AWp P n0 md c Q s := by
  intro C a w ro hs hm hn
  obtain ⟨D, hle, hs', hn'⟩ := hw C a w hs hn
  exact wpIn_mono (h D a w ro hs' (hm.le hle) hn') fun _ _ _ hp => hp.of_le hle
theorem Weaker.refl (s : ASt) : Weaker n0 s s := fun C _ _ h hn => ⟨C, .refl _ _, h, hn⟩
theorem Weaker.trans {s s' s'' : ASt} (h : Weaker n0 s s') (h' : Weaker n0 s' s'') : Weaker n0 s s'' := fun C a w hs hn =>
  let ⟨D, h1, h2, h5⟩ := h C a w hs hn; let ⟨E, h3, h4, h6⟩ := h' D a w h2 h5; ⟨E, h1.trans h3, h4, h6⟩
theorem Weaker.tab {n : Nat} {t t' : ATab} {d : List ADef} {h : AHeap} (ht : ∀ i, t'.get i = .junk ∨ t'.get i = t.get i) : Weaker n0 ⟨n, t, d, h⟩ ⟨n, t', d, h⟩ :=
  fun C a w hs hn => ⟨C, .refl _ _, ⟨⟨hs.t.size, fun i => by
    rcases ht i with e | e
    · rw [e]; exact .junk _
    · rw [e]; exact hs.t.val i⟩, hs.d, hs.h⟩, hn⟩
inductive DBelow (n : Nat) : ADef → Prop
  | mark (a : Nat) (h : a < n) : DBelow n (.mark a)
  | call (fn : Fn) (cap args : List AVal) (h1 : ∀ v ∈ cap, Below n v) (h2 : ∀ v ∈ args, Below n v) : DBelow n (.call fn cap args)
theorem DRel.le {n : Nat} {C D : Ctx} (hs : C.le n D) {x : ADef} {d : Deferred} (hb : DBelow n x) (h : DRel C x d) : DRel D x d := by
  cases hb with
  | mark a ha => obtain ⟨L, h, e⟩ := h; exact ⟨L, hs.μ _ _ ha h, e⟩
  | call fn cap args h1 h2 =>
    obtain ⟨rc, ra, e, g1, g2⟩ := h
    exact ⟨rc, ra, e, ⟨g1.1, fun i v rv a b => (g1.2 i v rv a b).le hs (h1 v (List.mem_of_getElem? a))⟩, ⟨g2.1, fun i v rv a b => (g2.2 i v rv a b).le hs (h2 v (List.mem_of_getElem? a))⟩⟩
theorem DRels.le {n : Nat} {C D : Ctx} (hs : C.le n D) : ∀ {xs : List ADef} {ds : List Deferred}, (∀ x ∈ xs, DBelow n x) → DRels C xs ds → DRels D xs ds
  | [], [], _, _ => trivial
  | x :: xs, _ :: _, hb, h => ⟨h.1.le hs (hb x (by simp)), h.2.le hs fun y hy => hb y (by simp [hy])⟩
  | [], _ :: _, _, h => h.elim
  | _ :: _, [], _, h => h.elim
theorem hget_take {h : AHeap} {m a : Nat} {o : AObj} (e : hget (h.take m) a = some o) : a < m ∧ hget h a = some o := by
  unfold hget at *
  rw [List.getElem?_take] at e
  split at e
  · rename_i hlt; exact ⟨hlt, e⟩
  · simp at e
theorem Ctx.cut_μ {m : Nat} {C : Ctx} {a : Nat} {L : Loc} (e : (C.cut m).μ a = some L) : a < m ∧ C.μ a = some L := by
  simp only [Ctx.cut] at e
  split at e
  · rename_i hlt; exact ⟨hlt, e⟩
  · cases e
theorem Ctx.cut_τ {m : Nat} {C : Ctx} {a k : Nat} {L : Loc} (e : (C.cut m).τ a k = some L) : a < m ∧ C.τ a k = some L := by
  simp only [Ctx.cut] at e
  split at e
  · rename_i hlt; exact ⟨hlt, e⟩
  · cases e
theorem locOf_cut {m : Nat} {C : Ctx} {a : Nat} {o : AObj} {L : Loc} (e : locOf (C.cut m) a o = some L) : a < m ∧ locOf C a o = some L := by
  cases o <;> first | exact Ctx.cut_τ e | exact Ctx.cut_μ e
theorem HRel.cut {C : Ctx} {h : AHeap} {w : World} (m : Nat) (hm : m ≤ h.length) (hr : HRel C h w)
    (hb : ∀ a o, hget h a = some o → a < m → OBelow m o ∨ ∀ L r, locOf C a o = some L → ORel C L o r → ORel (C.cut m) L o r) : HRel (C.cut m) (h.take m) w := by
  refine ⟨hr.cells, hr.frozen, ?_, ?_, ?_, fun a L hL => hr.there a L (Ctx.cut_μ hL).2, fun a k L hL => hr.thereτ a k L (Ctx.cut_τ hL).2, fun a e n ha k hk => ?_, hr.io⟩
  rotate_right
  · simp only [Ctx.cut]
    rw [hr.top a e n (hget_take ha).2 k hk]; split <;> rfl
  · intro a o L ho hL
    obtain ⟨hlt, ho⟩ := hget_take ho
    obtain ⟨_, hL⟩ := locOf_cut hL
    obtain ⟨h1, h1', r, h2, h3⟩ := hr.live a o L ho hL
    refine ⟨h1, h1', r, h2, ?_⟩
    rcases hb a o ho hlt with hb | hb
    · exact h3.le (Ctx.cut_le m C) hb
    · exact hb L r hL h3
  · intro a a' o o' L L' h1 h2 h3 h4 h5
    exact hr.inj a a' o o' L L' (hget_take h1).2 (hget_take h2).2 (locOf_cut h3).2 (locOf_cut h4).2 h5
  · intro a ha
    simp only [List.length_take] at ha
    simp only [Ctx.cut]
    rw [if_neg (by omega)]
    exact ⟨rfl, fun k => by rw [if_neg (by omega)]⟩
end
end Go.AL
namespace Go.AL
theorem hget_append_old {h l : AHeap} {a : Nat} (ha : a < h.length) : hget (h ++ l) a = hget h a := by
  unfold hget; rw [List.getElem?_append_left ha]
theorem hget_append_new {h l : AHeap} {k : Nat} : hget (h ++ l) (h.length + k) = (l[k]?).join := by
  unfold hget; rw [List.getElem?_append_right (by omega)]; congr 2; omega
theorem hget_lt {h : AHeap} {a : Nat} {o : AObj} (e : hget h a = some o) : a < h.length := by
  unfold hget at e
  by_cases ha : a < h.length
  · exact ha
  · rw [List.getElem?_eq_none (by omega)] at e; cases e
theorem hget_set_same {h : AHeap} {a : Nat} (ha : a < h.length) (o : Option AObj) : hget (h.set a o) a = o := by
  unfold hget; rw [List.getElem?_set_self ha]; rfl
theorem hget_set_ne {h : AHeap} {a a' : Nat} (ha : a ≠ a') (o : Option AObj) : hget (h.set a o) a' = hget h a' := by
  unfold hget; rw [List.getElem?_set_ne ha]
theorem hget_set {h : AHeap} {a a' : Nat} {o : Option AObj} {x : AObj} (e : hget (h.set a o) a' = some x) : (a' = a ∧ o = some x) ∨ (a' ≠ a ∧ hget h a' = some x) := by
  by_cases ha : a = a'
  · subst ha
    have := hget_lt e
    rw [List.length_set] at this
    rw [hget_set_same this] at e
    exact .inl ⟨rfl, e⟩
  · rw [hget_set_ne ha] at e
    exact .inr ⟨fun x => ha x.symm, e⟩
def Ctx.with (C : Ctx) (a : Nat) (L : Loc) : Ctx := { C with μ := fun x => if x = a then some L else C.μ x }
theorem Ctx.with_le (C : Ctx) (a : Nat) (L : Loc) : C.le a (C.with a L) := ⟨fun x hx => by simp only [Ctx.with]; rw [if_neg (by omega)], fun _ _ _ _ h => h, fun _ _ _ h => h, fun _ _ h => h, rfl⟩
theorem Ctx.with_sub {C : Ctx} {a : Nat} (L : Loc) (ha : C.μ a = none) : C.sub (C.with a L) := by
  refine ⟨fun x M hx => ?_, fun _ _ _ h => h, fun _ _ _ h => h, fun _ _ h => h, rfl⟩
  simp only [Ctx.with]
  by_cases h : x = a
  · rw [h, ha] at hx; cases hx
  · rw [if_neg h]; exact hx
theorem Ctx.with_self (C : Ctx) (a : Nat) (L : Loc) : (C.with a L).μ a = some L := by simp [Ctx.with]
theorem heap_push_old {w : World} {o : Obj} {b : Nat} (hb : b < w.heap.size) : (w.heap.push o)[b]? = w.heap[b]? := by
  rw [Array.getElem?_push_lt hb, Array.getElem?_eq_getElem hb]
theorem cell_lt {w : World} {b o : Nat} {v : Value} (h : w.cell? ⟨b, o, none⟩ = some v) : b < w.heap.size := by
  by_cases hb : b < w.heap.size
  · exact hb
  · have : w.heap[b]? = none := Array.getElem?_eq_none (by omega)
    simp [World.cell?, this] at h
theorem cell_congr {w w' : World} {b o : Nat} (h : w'.heap[b]? = w.heap[b]?) : w'.cell? ⟨b, o, none⟩ = w.cell? ⟨b, o, none⟩ := by
  unfold World.cell?; simp only [h]
theorem HRel.fc_lt {C : Ctx} {h : AHeap} {w : World} (hr : HRel C h w) {b o : Nat} {v : Value} (hc : C.fc b o = some v) : b < w.heap.size := cell_lt (hr.cells b o v hc).1
theorem HRel.g_lt {C : Ctx} {h : AHeap} {w : World} (hr : HRel C h w) {b : Nat} {o : Obj} (hc : C.g b = some o) : b < w.heap.size := (Array.getElem?_eq_some_iff.1 (hr.frozen b o hc)).1
theorem HRel.loc_lt {C : Ctx} {h : AHeap} {w : World} (hr : HRel C h w) {a : Nat} {o : AObj} {L : Loc} (hl : locOf C a o = some L) : L.b < w.heap.size := by
  cases o <;> first | exact hr.thereτ _ _ _ hl | exact hr.there _ _ hl
theorem hget_snoc {h : AHeap} {ao : AObj} {a : Nat} {x : AObj} (e : hget (h ++ [some ao]) a = some x) : (a = h.length ∧ x = ao) ∨ (a < h.length ∧ hget h a = some x) := by
  by_cases ha : a < h.length
  · rw [hget_append_old ha] at e; exact .inr ⟨ha, e⟩
  · have hl := hget_lt e
    simp only [List.length_append, List.length_singleton] at hl
    have : a = h.length := by omega
    subst this
    have := @hget_append_new h [some ao] 0
    simp only [Nat.add_zero] at this
    rw [this] at e
    simp at e
    exact .inl ⟨rfl, e.symm⟩
theorem HRel.alloc {C : Ctx} {h : AHeap} {w w' : World} (hr : HRel C h w) (o : Obj) (hw : w'.heap = w.heap.push o) (ao : AObj) (hao : ∀ e n, ao ≠ .tok e n) (base esz size elem : Nat)
    (ho : ORel (C.with h.length ⟨w.heap.size, base, esz, size, elem⟩) ⟨w.heap.size, base, esz, size, elem⟩ ao o) (hio : (w'.os, w'.output) = (w.os, w.output) := by rfl) :
    HRel (C.with h.length ⟨w.heap.size, base, esz, size, elem⟩) (h ++ [some ao]) w' := by
  have hnone := (hr.fresh h.length (Nat.le_refl _)).1
  have hsub := Ctx.with_sub ⟨w.heap.size, base, esz, size, elem⟩ hnone
  have hold : ∀ b, b < w.heap.size → w'.heap[b]? = w.heap[b]? := fun b hb => by rw [hw]; exact heap_push_old hb
  have hμ : ∀ a x L, hget (h ++ [some ao]) a = some x → locOf (C.with h.length ⟨w.heap.size, base, esz, size, elem⟩) a x = some L →
      (a = h.length ∧ x = ao ∧ L = ⟨w.heap.size, base, esz, size, elem⟩) ∨ (a < h.length ∧ hget h a = some x ∧ locOf C a x = some L) := by
    intro a x L hx hL
    rcases hget_snoc hx with ⟨rfl, rfl⟩ | ⟨ha, hx⟩
    · left
      cases x with
      | tok e n => exact absurd rfl (hao e n)
      | _ => simp only [locOf, Ctx.with_self] at hL; cases hL; exact ⟨rfl, rfl, rfl⟩
    · right
      refine ⟨ha, hx, ?_⟩
      cases x with
      | tok e n => exact hL
      | _ => simp only [locOf, Ctx.with] at hL; rw [if_neg (by omega)] at hL; exact hL
  have hs : w'.heap.size = w.heap.size + 1 := by rw [hw]; simp
  refine ⟨?_, ?_, ?_, ?_, ?_, ?_, ?_, ?_, hio.trans hr.io⟩
  rotate_right
  · intro a e n ha m hm
    rcases hget_snoc ha with ⟨_, e1⟩ | ⟨_, ha⟩
    · exact absurd e1.symm (hao e n)
    · exact hr.top a e n ha m hm
  · intro b q v hc
    rw [cell_congr (hold b (hr.fc_lt hc))]; exact hr.cells b q v hc
  · intro b x hg
    rw [hold b (hr.g_lt hg)]; exact hr.frozen b x hg
  · intro a x L hx hL
    rcases hμ a x L hx hL with ⟨rfl, rfl, rfl⟩ | ⟨ha, hx, hL⟩
    · refine ⟨?_, fun q _ => ?_, o, ?_, ho⟩
      · show C.g w.heap.size = none
        cases hg : C.g w.heap.size with
        | none => rfl
        | some y => exact absurd (hr.g_lt hg) (Nat.lt_irrefl _)
      · show C.fc w.heap.size q = none
        cases hg : C.fc w.heap.size q with
        | none => rfl
        | some y => exact absurd (hr.fc_lt hg) (Nat.lt_irrefl _)
      · rw [hw]; simp
    · obtain ⟨h1, h1', r, h2, h3⟩ := hr.live a x L hx hL
      exact ⟨h1, h1', r, by rw [hold _ (hr.loc_lt hL)]; exact h2, h3.mono hsub⟩
  · intro a a' x x' L L' h1 h2 h3 h4 h5
    rcases hμ a x L h1 h3 with ⟨e1, _, l1⟩ | ⟨n1, g1, m1⟩ <;> rcases hμ a' x' L' h2 h4 with ⟨e2, _, l2⟩ | ⟨n2, g2, m2⟩
    · rw [e1, e2]
    · subst l1; have := hr.loc_lt m2; rw [← h5] at this; exact absurd this (Nat.lt_irrefl _)
    · subst l2; have := hr.loc_lt m1; rw [h5] at this; exact absurd this (Nat.lt_irrefl _)
    · exact hr.inj a a' x x' L L' g1 g2 m1 m2 h5
  · intro a ha
    simp only [List.length_append, List.length_singleton] at ha
    refine ⟨?_, (hr.fresh a (by omega)).2⟩
    simp only [Ctx.with]
    rw [if_neg (by omega)]; exact (hr.fresh a (by omega)).1
  · intro a L hL
    simp only [Ctx.with] at hL
    split at hL
    · cases hL; show w.heap.size < _; omega
    · have := hr.there a L hL; omega
  · intro a k L hL
    have := hr.thereτ a k L hL; omega
theorem HRel.turn {C : Ctx} {h : AHeap} {w w' : World} (hr : HRel C h w) {a : Nat} {o : AObj} {L : Loc} (ha : hget h a = some o) (hnt : ∀ e n, o ≠ .tok e n) (hL : C.μ a = some L) (r' : Obj)
    (hsz : w'.heap.size = w.heap.size) (hself : w'.heap[L.b]? = some r') (hoth : ∀ b, b ≠ L.b → w'.heap[b]? = w.heap[b]?) (o' : Option AObj)
    (ho : ∀ x, o' = some x → (∀ e n, x ≠ .tok e n) ∧ ORel C L x r') (hio : (w'.os, w'.output) = (w.os, w.output) := by rfl) : HRel C (h.set a o') w' := by
  have hloc : locOf C a o = some L := by cases o <;> first | exact absurd rfl (hnt _ _) | exact hL
  obtain ⟨hg, hfc, r, hr1, hr2⟩ := hr.live a o L ha hloc
  have hlf : liveFrom L o = 0 := by cases o <;> first | exact absurd rfl (hnt _ _) | rfl
  rw [hlf] at hfc
  have hx' : ∀ a1 x1 L1, hget (h.set a o') a1 = some x1 → locOf C a1 x1 = some L1 → (a1 = a ∧ L1 = L ∧ o' = some x1) ∨ (a1 ≠ a ∧ hget h a1 = some x1) := by
    intro a1 x1 L1 e hl
    rcases hget_set e with ⟨hq, e2⟩ | ⟨hne, e2⟩
    · left
      subst hq
      have := (ho x1 e2).1
      refine ⟨rfl, ?_, e2⟩
      cases x1 <;> first | exact absurd rfl (this _ _) | (simp only [locOf] at hl; rw [hL] at hl; cases hl; rfl)
    · exact .inr ⟨hne, e2⟩
  refine ⟨?_, ?_, ?_, ?_, ?_, ?_, ?_, ?_, hio.trans hr.io⟩
  rotate_right
  · intro a' e n ha' m hm
    rcases hget_set ha' with ⟨_, e2⟩ | ⟨_, e2⟩
    · exact absurd rfl ((ho _ e2).1 e n)
    · exact hr.top a' e n e2 m hm
  · intro b q v hc
    have hb : b ≠ L.b := fun e => by rw [e, hfc q (Nat.zero_le _)] at hc; cases hc
    rw [cell_congr (hoth b hb)]; exact hr.cells b q v hc
  · intro b x hx
    have hb : b ≠ L.b := fun e => by rw [e, hg] at hx; cases hx
    rw [hoth b hb]; exact hr.frozen b x hx
  · intro a' x L' hx hL'
    rcases hx' a' x L' hx hL' with ⟨_, q2, e⟩ | ⟨hne, hx⟩
    · obtain ⟨g1, g2⟩ := ho x e
      rw [q2]
      exact ⟨hg, fun q _ => hfc q (Nat.zero_le _), r', hself, g2⟩
    · obtain ⟨h1, h1', r2, h2, h3⟩ := hr.live a' x L' hx hL'
      have hb : L'.b ≠ L.b := fun e => hne (hr.inj a' a x o L' L hx ha hL' hloc e)
      exact ⟨h1, h1', r2, by rw [hoth _ hb]; exact h2, h3⟩
  · intro a1 a2 x1 x2 L1 L2 h1 h2 h3 h4 h5
    rcases hx' a1 x1 L1 h1 h3 with ⟨q1, l1, _⟩ | ⟨n1, g1⟩ <;> rcases hx' a2 x2 L2 h2 h4 with ⟨q2, l2, _⟩ | ⟨n2, g2⟩
    · rw [q1, q2]
    · rw [q1]; exact hr.inj a a2 o x2 L L2 ha g2 hloc h4 (by rw [← l1]; exact h5)
    · rw [q2]; exact hr.inj a1 a x1 o L1 L g1 ha h3 hloc (by rw [← l2]; exact h5)
    · exact hr.inj a1 a2 x1 x2 L1 L2 g1 g2 h3 h4 h5
  · intro a' ha'
    rw [List.length_set] at ha'
    exact hr.fresh a' ha'
  · intro a' L' hL'
    rw [hsz]; exact hr.there a' L' hL'
  · intro a' k L' hL'
    rw [hsz]; exact hr.thereτ a' k L' hL'
theorem HRel.same {C : Ctx} {h : AHeap} {w w' : World} (hr : HRel C h w) (hw : w'.heap = w.heap) (hio : (w'.os, w'.output) = (w.os, w.output) := by rfl) : HRel C h w' := by
  have hc : ∀ b o, w'.cell? ⟨b, o, none⟩ = w.cell? ⟨b, o, none⟩ := fun b o => cell_congr (by rw [hw])
  exact ⟨fun b o v x => by rw [hc]; exact hr.cells b o v x, fun b o x => by rw [hw]; exact hr.frozen b o x, fun a o L x y => by rw [hw]; exact hr.live a o L x y, hr.inj, hr.fresh,
    fun a L x => by rw [hw]; exact hr.there a L x, fun a k L x => by rw [hw]; exact hr.thereτ a k L x, hr.top, hio.trans hr.io⟩
theorem HRel.drop {C : Ctx} {h : AHeap} {w : World} (hr : HRel C h w) (a : Nat) : HRel C (h.set a none) w := by
  have f : ∀ a1 x1, hget (h.set a none) a1 = some x1 → hget h a1 = some x1 := by
    intro a1 x1 e
    rcases hget_set e with ⟨_, e⟩ | ⟨_, e⟩
    · cases e
    · exact e
  exact ⟨hr.cells, hr.frozen, fun a o L x y => hr.live a o L (f _ _ x) y, fun a a' o o' L L' h1 h2 => hr.inj a a' o o' L L' (f _ _ h1) (f _ _ h2),
    fun a ha => hr.fresh a (by rw [List.length_set] at ha; exact ha), hr.there, hr.thereτ, fun a e n ha => hr.top a e n (f _ _ ha), hr.io⟩
theorem HRel.push {C : Ctx} {h : AHeap} {w w' : World} (hr : HRel C h w) (o : Obj) (hw : w'.heap = w.heap.push o) (hio : (w'.os, w'.output) = (w.os, w.output) := by rfl) : HRel C h w' := by
  have hold : ∀ b, b < w.heap.size → w'.heap[b]? = w.heap[b]? := fun b hb => by rw [hw]; exact heap_push_old hb
  have hs : w'.heap.size = w.heap.size + 1 := by rw [hw]; simp
  refine ⟨fun b q v hc => ?_, fun b x hg => ?_, fun a x L hx hL => ?_, hr.inj, hr.fresh, fun a L hL => ?_, fun a k L hL => ?_, hr.top, hio.trans hr.io⟩
  · rw [cell_congr (hold b (hr.fc_lt hc))]; exact hr.cells b q v hc
  · rw [hold b (hr.g_lt hg)]; exact hr.frozen b x hg
  · obtain ⟨h1, h1', r, h2, h3⟩ := hr.live a x L hx hL
    exact ⟨h1, h1', r, by rw [hold _ (hr.loc_lt hL)]; exact h2, h3⟩
  · have := hr.there a L hL; omega
  · have := hr.thereτ a k L hL; omega
theorem HRel.name {C : Ctx} {h : AHeap} {w : World} (hr : HRel C h w) (L : Loc) (hb : L.b < w.heap.size) (hfree : ∀ a o M, hget h a = some o → locOf C a o = some M → M.b ≠ L.b) (hg : C.g L.b = none) (hfc : ∀ q, C.fc L.b q = none)
    (ao : AObj) (hao : ∀ e n, ao ≠ .tok e n) (r : Obj) (hr1 : w.heap[L.b]? = some r) (ho : ORel (C.with h.length L) L ao r) : HRel (C.with h.length L) (h ++ [some ao]) w := by
  have hnone := (hr.fresh h.length (Nat.le_refl _)).1
  have hsub := Ctx.with_sub L hnone
  have hμ : ∀ a x M, hget (h ++ [some ao]) a = some x → locOf (C.with h.length L) a x = some M → (a = h.length ∧ x = ao ∧ M = L) ∨ (a < h.length ∧ hget h a = some x ∧ locOf C a x = some M) := by
    intro a x M hx hM
    rcases hget_snoc hx with ⟨rfl, rfl⟩ | ⟨ha, hx⟩
    · left
      cases x with
      | tok e n => exact absurd rfl (hao e n)
      | _ => simp only [locOf, Ctx.with_self] at hM; cases hM; exact ⟨rfl, rfl, rfl⟩
    · right
      refine ⟨ha, hx, ?_⟩
      cases x with
      | tok e n => exact hM
      | _ => simp only [locOf, Ctx.with] at hM; rw [if_neg (by omega)] at hM; exact hM
  refine ⟨hr.cells, hr.frozen, ?_, ?_, ?_, ?_, hr.thereτ, ?_, hr.io⟩
  · intro a x M hx hM
    rcases hμ a x M hx hM with ⟨rfl, rfl, rfl⟩ | ⟨ha, hx, hM⟩
    · exact ⟨hg, fun q _ => hfc q, r, hr1, ho⟩
    · obtain ⟨h1, h1', r, h2, h3⟩ := hr.live a x M hx hM
      exact ⟨h1, h1', r, h2, h3.mono hsub⟩
  · intro a a' x x' M M' h1 h2 h3 h4 h5
    rcases hμ a x M h1 h3 with ⟨e1, _, l1⟩ | ⟨n1, g1, m1⟩ <;> rcases hμ a' x' M' h2 h4 with ⟨e2, _, l2⟩ | ⟨n2, g2, m2⟩
    · rw [e1, e2]
    · exact absurd (by rw [← h5, l1]) (hfree a' x' M' g2 m2)
    · exact absurd (by rw [h5, l2]) (hfree a x M g1 m1)
    · exact hr.inj a a' x x' M M' g1 g2 m1 m2 h5
  · intro a ha
    simp only [List.length_append, List.length_singleton] at ha
    refine ⟨?_, (hr.fresh a (by omega)).2⟩
    simp only [Ctx.with]
    rw [if_neg (by omega)]; exact (hr.fresh a (by omega)).1
  · intro a M hM
    simp only [Ctx.with] at hM
    split at hM
    · cases hM; exact hb
    · exact hr.there a M hM
  · intro a e n ha m hm
    rcases hget_snoc ha with ⟨_, e1⟩ | ⟨_, ha⟩
    · exact absurd e1.symm (hao e n)
    · exact hr.top a e n ha m hm
theorem HRel.newTok {C : Ctx} {h : AHeap} {w : World} (hr : HRel C h w) (esz : Nat) : HRel C (h ++ [some (.tok esz 0)]) w := by
  have f : ∀ a x L, hget (h ++ [some (.tok esz 0)]) a = some x → locOf C a x = some L → hget h a = some x := by
    intro a x L hx hL
    rcases hget_snoc hx with ⟨rfl, rfl⟩ | ⟨_, hx⟩
    · simp only [locOf] at hL; rw [(hr.fresh _ (Nat.le_refl _)).2 0] at hL; cases hL
    · exact hx
  refine ⟨hr.cells, hr.frozen, fun a o L hx hL => hr.live a o L (f a o L hx hL) hL, fun a a' o o' L L' h1 h2 h3 h4 h5 => hr.inj a a' o o' L L' (f _ _ _ h1 h3) (f _ _ _ h2 h4) h3 h4 h5, fun a ha => hr.fresh a ?_, hr.there, hr.thereτ, ?_, hr.io⟩
  · simp only [List.length_append, List.length_singleton] at ha; omega
  · intro a e n ha m hm
    rcases hget_snoc ha with ⟨e1, _⟩ | ⟨_, ha⟩
    · rw [e1]; exact (hr.fresh _ (Nat.le_refl _)).2 m
    · exact hr.top a e n ha m hm
theorem VRel.isBelow {C : Ctx} {m : Nat} (hf : C.Fresh m) {v : AVal} {rv : Value} (h : VRel C v rv) : Below m v := by
  have hlt : ∀ a L, C.μ a = some L → a < m := fun a L hL => by
    by_cases ha : a < m
    · exact ha
    · rw [(hf a (by omega)).1] at hL; cases hL
  have get : ∀ (cs : List AVal) (rs : Array Value) (i : Nat) v, cs.length = rs.size → cs[i]? = some v → ∃ rv, rs[i]? = some rv := by
    intro cs rs i v hn hi
    have := (List.getElem?_eq_some_iff.1 hi).1
    exact ⟨rs[i]'(by omega), Array.getElem?_eq_getElem (by omega)⟩
  induction h with
  | junk v => exact .junk
  | lit v => exact .lit v
  | str l s h => exact .str l
  | agg cs rs hn _ ih => exact .agg cs fun i v hi => let ⟨rv, hrv⟩ := get cs rs i v hn hi; ih i v rv hi hrv
  | tuple cs rs hn _ ih => exact .tuple cs fun i v hi => let ⟨rv, hrv⟩ := get cs rs i v hn hi; ih i v rv hi hrv
  | ptr a i off L ha => exact .ptr a i off (hlt a L ha)
  | fptr cs off b base rc hc _ ih => exact .fptr cs off fun i v hi => ih i v hi
  | slice a esz i len cap rcap L ha hesz hcap hlen hroom => exact .slice a esz i len cap (hlt a L ha)
  | fslice es b base esz rcap rc hlen hsz hc _ ih => exact .fslice es fun i j e v h1 h2 => ih i j e v h1 h2
  | fnil => exact .fslice [] fun i j e v h1 => by simp at h1
  | gs tok esz es L rcap rc hne ht hesz hlen hroom hsz hc _ ih =>
    refine .gs tok esz es ?_ fun i j e v h1 h2 => ih i j e v h1 h2
    by_cases ha : tok < m
    · exact ha
    · rw [(hf tok (by omega)).2] at ht; cases ht
  | gnil tok esz => exact .gnil tok esz
  | eslice p => exact .eslice
  | func fn first captured rf rc hf hc _ _ ih1 ih2 =>
    exact .func fn first captured (fun i v hi => let ⟨rv, hrv⟩ := get first rf i v hf hi; ih1 i v rv hi hrv) (fun i v hi => let ⟨rv, hrv⟩ := get captured rc i v hc hi; ih2 i v rv hi hrv)
  | yieldf a L ha => exact .yieldf a (hlt a L ha)
  | iface t v rv _ ih => exact .iface t v ih
  | map a L ha => exact .map a (hlt a L ha)
  | fmap es b ms clock hb hn _ _ ih1 ih2 =>
    have g : ∀ (i : Nat) e, es[i]? = some e → ∃ m, ms[i]? = some m := fun i e hi => by
      have := (List.getElem?_eq_some_iff.1 hi).1
      exact ⟨ms[i]'(by omega), Array.getElem?_eq_getElem (by omega)⟩
    exact .fmap es (fun i e hi => let ⟨m, hm⟩ := g i e hi; ih1 i e m hi hm) (fun i e hi => let ⟨m, hm⟩ := g i e hi; ih2 i e m hi hm)
  | iter a L ha => exact .iter a (hlt a L ha)
theorem ORel.isBelow {C : Ctx} {m : Nat} (hf : C.Fresh m) {L : Loc} {o : AObj} {r : Obj} (h : ORel C L o r) : OBelow m o := by
  cases o with
  | tok esz k => exact .tok esz k
  | rows es => obtain ⟨c, _, hr⟩ := h; exact .rows es fun i j e v h1 h2 => let ⟨rv, _, b, _⟩ := hr.cell i j e v h1 h2; b.isBelow hf
  | map es =>
    obtain ⟨ms, clock, _, hn, hr⟩ := h
    refine .map es fun i e hi => ?_
    have := (List.getElem?_eq_some_iff.1 hi).1
    obtain ⟨a, b⟩ := hr i e (ms[i]'(by omega)) hi (Array.getElem?_eq_getElem (by omega))
    exact ⟨a.isBelow hf, b.isBelow hf⟩
  | loop n t params assign body st pending defd =>
    obtain ⟨fn, rt, Ld, hd, _, hr⟩ := h
    refine .loop n t params assign body st pending defd (fun i => (hr.val i).isBelow hf) ?_
    by_cases ha : defd < m
    · exact ha
    · rw [(hf defd (by omega)).1] at hd; cases hd
  | defd => exact .defd
  | siter s pos => exact .siter s pos
def ACall (P : Program) (f : FuncId) (args : List AVal) (h : AHeap) (R : AVal → AHeap → Prop) : Prop :=
  ∀ C w rargs, HRel C h w → VRels C args rargs →
    Calls P f rargs w fun e w' => ∃ v rv D h', e = .returned rv ∧ C.le h.length D ∧ HRel D h' w' ∧ VRel D v rv ∧ R v h'
theorem ACall.mono {P : Program} {f : FuncId} {args : List AVal} {h : AHeap} {R R' : AVal → AHeap → Prop} (hc : ACall P f args h R) (hr : ∀ v h', R v h' → R' v h') : ACall P f args h R' :=
  fun C w rargs h1 h2 => (hc C w rargs h1 h2).mono fun _ _ ⟨v, rv, D, h', e, a, b, c, d⟩ => ⟨v, rv, D, h', e, a, b, c, hr _ _ d⟩
end Go.AL
namespace Go.AL
def mkv (agg : Bool) (n : Nat) (l : List AVal) : AVal := if agg then .agg (l.take n) else l.headD .junk
def ALoad (h : AHeap) (p : AVal) (n : Nat) (agg : Bool) (K : AVal → Prop) : Prop :=
  match p with
  | .ptr a i off => ∃ es e, hget h a = some (.rows es) ∧ es[i]? = some e ∧ off + n ≤ e.length ∧ K (mkv agg n (e.drop off))
  | .fptr cs off => off + n ≤ cs.length ∧ K (mkv agg n (cs.drop off))
  | _ => False
theorem ALoad.mono {h : AHeap} {p : AVal} {n : Nat} {agg : Bool} {K K' : AVal → Prop} (hk : ∀ v, K v → K' v) (hl : ALoad h p n agg K) : ALoad h p n agg K' := by
  cases p <;> simp only [ALoad] at * <;> first
    | exact hl
    | (obtain ⟨es, e, h1, h2, h3, h4⟩ := hl; exact ⟨es, e, h1, h2, h3, hk _ h4⟩)
    | exact ⟨hl.1, hk _ hl.2⟩
theorem add_plain (b o n : Nat) : (⟨b, o, none⟩ : Addr).add n = ⟨b, o + n, none⟩ := by
  unfold Addr.add
  split
  · rename_i h; subst h; rfl
  · rfl
structure VarT (P : Program) (t : TypeId) (n : Nat) (agg : Bool) : Prop where
  info : ∃ i, P.info? t = some i ∧ i.size = n
  und : ∃ d, P.underlying t = some d ∧ agg = (match d with | .struct _ | .array _ _ => true | _ => false)
  one : agg = false → n = 1
def varT (P : Program) (t : TypeId) : Option (Nat × Bool) :=
  match P.info? t, P.underlying t with
  | some i, some (.struct _) | some i, some (.array _ _) => some (i.size, true)
  | some i, some _ => if i.size = 1 then some (1, false) else none
  | _, _ => none
theorem varT_ok {P : Program} {t : TypeId} {n : Nat} {agg : Bool} (h : varT P t = some (n, agg)) : VarT P t n agg := by
  unfold varT at h
  split at h
  · rename_i i fs h1 h2; cases h; exact ⟨⟨i, h1, rfl⟩, ⟨_, h2, rfl⟩, fun e => by cases e⟩
  · rename_i i k e h1 h2; cases h; exact ⟨⟨i, h1, rfl⟩, ⟨_, h2, rfl⟩, fun e => by cases e⟩
  · rename_i i d n1 n2 h1 h2
    split at h
    · rename_i hs
      cases h
      refine ⟨⟨i, h1, hs⟩, ⟨d, h2, ?_⟩, fun _ => rfl⟩
      cases d <;> first | rfl | exact (n1 _ rfl).elim | exact (n2 _ _ rfl).elim | exact (n1 _ _ rfl).elim | exact (n2 _ _ _ rfl).elim
    · cases h
  · cases h
theorem run_isAgg {P : Program} {t : TypeId} {n : Nat} {agg : Bool} (h : VarT P t n agg) (w : World) : (isAgg t).run P w = .ok agg w := by
  obtain ⟨d, hd, rfl⟩ := h.und
  unfold isAgg
  simp only [Sem.run_bind, run_underlying hd, Result.andThen_ok]
  cases d <;> rfl
theorem run_sizeOf' {P : Program} {t : TypeId} {n : Nat} {agg : Bool} (h : VarT P t n agg) (w : World) : (sizeOf t).run P w = .ok n w := by
  obtain ⟨i, hi, rfl⟩ := h.info
  simp [sizeOf, typeInfo, hi]
theorem run_loadVar_of {P : Program} {C : Ctx} {t : TypeId} {n : Nat} {agg : Bool} (ht : VarT P t n agg) {w : World} (b o : Nat) (l : List AVal) (hn : n ≤ l.length)
    (hc : ∀ (j : Nat) v, l[j]? = some v → j < n → ∃ rv, w.cell? ⟨b, o + j, none⟩ = some rv ∧ VRel C v rv) :
    ∃ rv, (loadVar t ⟨b, o, none⟩).run P w = .ok rv w ∧ VRel C (mkv agg n l) rv := by
  have hf : ∃ f : Nat → Value, ∀ (j : Nat) v, l[j]? = some v → j < n → w.cell? ⟨b, o + j, none⟩ = some (f j) ∧ VRel C v (f j) := by
    refine ⟨fun j => (w.cell? ⟨b, o + j, none⟩).getD undef, fun j v h1 h2 => ?_⟩
    obtain ⟨rv, h3, h4⟩ := hc j v h1 h2
    simp only [h3]; exact ⟨rfl, h4⟩
  obtain ⟨f, hf⟩ := hf
  have hall : ∀ j, j < n → w.cell? ((⟨b, o, none⟩ : Addr).add j) = some (f j) := by
    intro j hj
    rw [add_plain]
    exact (hf j l[j] (List.getElem?_eq_getElem (by omega)) hj).1
  cases agg with
  | true =>
    refine ⟨.agg ((List.range n).map f).toArray, ?_, ?_⟩
    · unfold loadVar
      simp only [Sem.run_bind, run_isAgg ht, Result.andThen_ok, if_true, run_sizeOf' ht, run_loadCells w _ n f hall, Sem.run_pure]
    · simp only [mkv, if_true]
      refine .agg _ _ (by simp; omega) ?_
      intro i v rv h1 h2
      rw [List.getElem?_take] at h1
      split at h1
      · rename_i hi
        simp [hi] at h2
        subst h2
        exact (hf i v h1 hi).2
      · cases h1
  | false =>
    have h1 : n = 1 := ht.one rfl
    subst h1
    match l, hn with
    | v :: l, _ =>
      have h0 := hf 0 v rfl (by omega)
      refine ⟨f 0, ?_, ?_⟩
      · unfold loadVar
        simp only [Sem.run_bind, run_isAgg ht, Result.andThen_ok, Bool.false_eq_true, if_false, run_load]
        have := h0.1
        simp only [Nat.add_zero] at this
        rw [this]
      · simpa [mkv] using h0.2
theorem live_cell {C : Ctx} {h : AHeap} {w : World} (hr : HRel C h w) {a i : Nat} {es : List (List AVal)} {e : List AVal} {L : Loc} (ha : hget h a = some (.rows es)) (hL : C.μ a = some L)
    (hi : es[i]? = some e) {j : Nat} {v : AVal} (hj : e[j]? = some v) : ∃ rv, w.cell? ⟨L.b, L.base + i * L.esz + j, none⟩ = some rv ∧ VRel C v rv ∧ rv.oneCell' = true := by
  obtain ⟨_, _, r, h1, c, rfl, h2⟩ := hr.live a _ L ha hL
  obtain ⟨rv, h3, h4, h5⟩ := h2.cell i j e v hi hj
  exact ⟨rv, by simp [World.cell?, h1, h3], h4, h5⟩
theorem sound_load {P : Program} {C : Ctx} {h : AHeap} {w : World} (hr : HRel C h w) {t : TypeId} {n : Nat} {agg : Bool} (ht : VarT P t n agg) {p : AVal} {rp : Value} (hp : VRel C p rp) {K : AVal → Prop}
    (hl : ALoad h p n agg K) : ∃ v rv, (Instr.loadAt t rp).run P w = .ok rv w ∧ VRel C v rv ∧ K v := by
  cases hp with
  | ptr a i off L ha =>
    obtain ⟨es, e, h1, h2, h3, h4⟩ := hl
    obtain ⟨rv, h5, h6⟩ := run_loadVar_of (P := P) (C := C) ht (w := w) L.b (L.base + i * L.esz + off) (e.drop off) (by simp; omega) (fun j v hj _ => by
      rw [List.getElem?_drop] at hj
      obtain ⟨rv, g1, g2, _⟩ := live_cell hr h1 ha h2 hj
      exact ⟨rv, by rw [← g1]; congr 2; omega, g2⟩)
    exact ⟨_, rv, by simp [Instr.loadAt, Instr.sureAddr, h5], h6, h4⟩
  | fptr cs off b base rc hc hv =>
    obtain ⟨h3, h4⟩ := hl
    obtain ⟨rv, h5, h6⟩ := run_loadVar_of (P := P) (C := C) ht (w := w) b (base + off) (cs.drop off) (by simp; omega) (fun j v hj _ => by
      rw [List.getElem?_drop] at hj
      exact ⟨rc (off + j), by rw [show base + off + j = base + (off + j) by omega]; exact (hr.cells _ _ _ (hc _ v hj)).1, hv _ v hj⟩)
    exact ⟨_, rv, by simp [Instr.loadAt, Instr.sureAddr, h5], h6, h4⟩
  | _ => exact hl.elim
def AField (p : AVal) (off : Nat) (K : AVal → Prop) : Prop :=
  match p with
  | .ptr a i o => K (.ptr a i (o + off))
  | .fptr cs o => K (.fptr cs (o + off))
  | _ => False
def fieldT (P : Program) (t : TypeId) (f : Nat) : Option Nat :=
  match P.underlying t with
  | some (.struct fs) =>
    match fs[f]? with
    | some fd => match P.info? fd.type with
      | some i => if i.size = 0 then none else some fd.offset
      | none => none
    | none => none
  | _ => none
theorem sound_fieldAddr {P : Program} {C : Ctx} {w : World} {t : TypeId} {f off : Nat} (ht : fieldT P t f = some off) {p : AVal} {rp : Value} (hp : VRel C p rp) {K : AVal → Prop}
    (hk : AField p off K) : ∃ v rv, (Instr.fieldAt t rp f).run P w = .ok rv w ∧ VRel C v rv ∧ K v := by
  unfold fieldT at ht
  split at ht
  · rename_i fs hu
    split at ht
    · rename_i fd hf
      split at ht
      · rename_i i hi
        split at ht
        · cases ht
        · rename_i hz
          cases ht
          have hrun : ∀ b o, (Instr.fieldAt t (.pointer (some ⟨b, o, none⟩)) f).run P w = .ok (.pointer (some ⟨b, o + fd.offset, none⟩)) w := by
            intro b o
            have hs : (sizeOf fd.type).run P w = .ok i.size w := by simp [sizeOf, typeInfo, hi]
            simp only [Instr.fieldAt, Sem.run_bind, run_underlying hu, Result.andThen_ok, hf, Instr.sureAddr, Sem.run_pure, fieldPlace, hs, Sem.run_ite, hz, if_false, add_plain]
          cases hp with
          | ptr a i off L ha => exact ⟨_, _, hrun _ _, by have := VRel.ptr (C := C) a i (off + fd.offset) L ha; rw [← Nat.add_assoc] at this; exact this, hk⟩
          | fptr cs o b base rc hc hv => exact ⟨_, _, hrun _ _, by have := VRel.fptr cs (o + fd.offset) b base rc hc hv; rw [← Nat.add_assoc] at this; exact this, hk⟩
          | _ => exact hk.elim
      · cases ht
    · cases ht
  · cases ht
def AIdx (x i : AVal) (esz : Nat) (K : AVal → Prop) : Prop :=
  match x, i with
  | .slice a es k len _, .lit (.int _ n) => es = esz ∧ 0 ≤ n ∧ n < len ∧ K (.ptr a (k + n.toNat) 0)
  | .fslice es, .lit (.int _ n) => ∃ e, 0 ≤ n ∧ es[n.toNat]? = some e ∧ e.length = esz ∧ K (.fptr e 0)
  | .gs _ _ es, .lit (.int _ n) => ∃ e, 0 ≤ n ∧ es[n.toNat]? = some e ∧ e.length = esz ∧ K (.fptr e 0)
  | _, _ => False
def elemT (P : Program) (t : TypeId) : Option (TypeId × Nat) :=
  match P.underlying t with
  | some (.slice e) => match P.info? e with
    | some i => some (e, i.size)
    | none => none
  | _ => none
theorem elemT_ok {P : Program} {t e : TypeId} {n : Nat} (h : elemT P t = some (e, n)) : P.underlying t = some (.slice e) ∧ ∃ i, P.info? e = some i ∧ i.size = n := by
  unfold elemT at h
  split at h
  · rename_i e' hu
    split at h
    · rename_i i hi; cases h; exact ⟨hu, i, hi, rfl⟩
    · cases h
  · cases h
theorem sound_idx {P : Program} {C : Ctx} {w : World} {t e : TypeId} {n : Nat} (ht : elemT P t = some (e, n)) {x i : AVal} {rx ri : Value} (hx : VRel C x rx) (hi : VRel C i ri) {K : AVal → Prop}
    (hk : AIdx x i n K) : ∃ v rv, (Instr.indexAt t rx ri).run P w = .ok rv w ∧ VRel C v rv ∧ K v := by
  obtain ⟨hu, ie, hie, rfl⟩ := elemT_ok ht
  have hs : (sizeOf e).run P w = .ok ie.size w := by simp [sizeOf, typeInfo, hie]
  cases hx with
  | slice a es k len cap rcap L ha hesz hcap hlen hroom =>
    cases hi with
    | lit =>
      cases ri with
      | int kd n =>
        obtain ⟨h0, h1, h2, h3⟩ := hk
        have hL := hesz.trans h0
        refine ⟨_, .pointer (some ⟨L.b, L.base + (k + n.toNat) * L.esz + 0, none⟩), ?_, .ptr a (k + n.toNat) 0 L ha, h3⟩
        simp only [Instr.indexAt, asIntOf, Sem.run_bind, Sem.run_pure, Result.andThen_ok, run_underlying hu, h1, h2, and_self, if_true, hs, add_plain, Sem.run_ite]
        congr 4
        rw [hL, Nat.add_mul]; omega
      | _ => exact hk.elim
    | _ => exact hk.elim
  | fslice es b base esz rcap rc hlen hsz' hc hv =>
    cases hi with
    | lit =>
      cases ri with
      | int kd n =>
        obtain ⟨el, h1, h2, h3, h4⟩ := hk
        have hlt := (List.getElem?_eq_some_iff.1 h2).1
        have he : el.length = esz := hsz' _ _ h2
        refine ⟨_, .pointer (some ⟨b, base + n.toNat * esz + 0, none⟩), ?_, .fptr el 0 b (base + n.toNat * esz) (rc n.toNat) (fun j v hj => hc _ j el v h2 hj) (fun j v hj => hv _ j el v h2 hj), h4⟩
        have h2' : n < (es.length : Int) := by omega
        simp only [Instr.indexAt, asIntOf, Sem.run_bind, Sem.run_pure, Result.andThen_ok, run_underlying hu, h1, h2', and_self, if_true, hs, add_plain, Sem.run_ite]
        congr 4
        rw [← h3, he]; rfl
      | _ => exact hk.elim
    | _ => exact hk.elim
  | fnil =>
    cases hi with
    | lit =>
      cases ri with
      | int kd n => obtain ⟨el, h1, h2, h3, h4⟩ := hk; simp at h2
      | _ => exact hk.elim
    | _ => exact hk.elim
  | gnil =>
    cases hi with
    | lit =>
      cases ri with
      | int kd n => obtain ⟨el, h1, h2, h3, h4⟩ := hk; simp at h2
      | _ => exact hk.elim
    | _ => exact hk.elim
  | gs tok esz es L rcap rc hne htk hesz hlen hroom hsz' hc hv =>
    cases hi with
    | lit =>
      cases ri with
      | int kd n =>
        obtain ⟨el, h1, h2, h3, h4⟩ := hk
        have hlt := (List.getElem?_eq_some_iff.1 h2).1
        have he : el.length = L.esz := hsz' _ _ h2
        refine ⟨_, .pointer (some ⟨L.b, L.base + n.toNat * L.esz + 0, none⟩), ?_, .fptr el 0 L.b (L.base + n.toNat * L.esz) (rc n.toNat) (fun j v hj => hc _ j el v h2 hj) (fun j v hj => hv _ j el v h2 hj), h4⟩
        have h2' : n < (es.length : Int) := by omega
        simp only [Instr.indexAt, asIntOf, Sem.run_bind, Sem.run_pure, Result.andThen_ok, run_underlying hu, h1, h2', and_self, if_true, hs, add_plain, Sem.run_ite]
        congr 4
        rw [← h3, he]; rfl
      | _ => exact hk.elim
    | _ => exact hk.elim
  | _ => exact hk.elim
end Go.AL
namespace Go.AL
def vint (n : Int) : AVal := .lit (.int .i64 n)
def vbool (b : Bool) : AVal := .lit (.bool b)
def AInt (op : BinOp) (k : IntKind) (a : Int) (k' : IntKind) (b : Int) (K : AVal → Prop) : Prop :=
  match op with
  | .shl => 0 ≤ b ∧ K (.lit (.int k (k.wrap (a * 2 ^ (min b.toNat k.bits)))))
  | .shr => 0 ≤ b ∧ K (.lit (.int k (a.fdiv (2 ^ (min b.toNat k.bits)))))
  | .add => k = k' ∧ K (.lit (.int k (k.wrap (a + b))))
  | .sub => k = k' ∧ K (.lit (.int k (k.wrap (a - b))))
  | .mul => k = k' ∧ K (.lit (.int k (k.wrap (a * b))))
  | .quo => k = k' ∧ b ≠ 0 ∧ K (.lit (.int k (k.wrap (a.tdiv b))))
  | .rem => k = k' ∧ b ≠ 0 ∧ K (.lit (.int k (a.tmod b)))
  | .and => k = k' ∧ K (.lit (.int k (bits .and k a b)))
  | .or => k = k' ∧ K (.lit (.int k (bits .or k a b)))
  | .xor => k = k' ∧ K (.lit (.int k (bits .xor k a b)))
  | .andNot => k = k' ∧ K (.lit (.int k (bits .andNot k a b)))
  | .eql => k = k' ∧ K (.lit (.bool (decide (a = b))))
  | .neq => k = k' ∧ K (.lit (.bool (!decide (a = b))))
  | .lss => k = k' ∧ K (.lit (.bool (decide (a < b))))
  | .leq => k = k' ∧ K (.lit (.bool (decide (a ≤ b))))
  | .gtr => k = k' ∧ K (.lit (.bool (decide (b < a))))
  | .geq => k = k' ∧ K (.lit (.bool (decide (b ≤ a))))
theorem sound_int {P : Program} {w : World} {C : Ctx} (op : BinOp) (t : TypeId) (k : IntKind) (a : Int) (k' : IntKind) (b : Int) {K : AVal → Prop} (hk : AInt op k a k' b K) :
    ∃ v rv, (binOp op t (.int k a) (.int k' b)).run P w = .ok rv w ∧ VRel C v rv ∧ K v := by
  cases op <;> simp only [AInt] at hk
  case shl => exact ⟨_, _, by simp only [binOp, Op.shift, Int.not_lt.2 hk.1, if_false, Sem.run_pure]; try rfl, .lit _, hk.2⟩
  case shr => exact ⟨_, _, by simp only [binOp, Op.shift, Int.not_lt.2 hk.1, if_false, Sem.run_pure]; try rfl, .lit _, hk.2⟩
  case quo => obtain ⟨rfl, h1, h2⟩ := hk; exact ⟨_, _, by simp only [binOp, Op.intDiv, h1, ne_eq, not_true_eq_false, if_false, Sem.run_pure]; try rfl, .lit _, h2⟩
  case rem => obtain ⟨rfl, h1, h2⟩ := hk; exact ⟨_, _, by simp only [binOp, Op.intDiv, h1, ne_eq, not_true_eq_false, if_false, Sem.run_pure]; try rfl, .lit _, h2⟩
  case eql => obtain ⟨rfl, h2⟩ := hk; exact ⟨_, _, by simp only [binOp, Op.intCmp, ne_eq, not_true_eq_false, if_false, Sem.run_pure]; try rfl, .lit _, h2⟩
  case neq => obtain ⟨rfl, h2⟩ := hk; exact ⟨_, _, by simp only [binOp, Op.intCmp, ne_eq, not_true_eq_false, if_false, Sem.run_pure, bne]; try rfl, .lit _, h2⟩
  case and => obtain ⟨rfl, h2⟩ := hk; exact ⟨_, _, by simp [binOp, intBits_and], .lit _, h2⟩
  case or => obtain ⟨rfl, h2⟩ := hk; exact ⟨_, _, by simp [binOp, intBits_or], .lit _, h2⟩
  case xor => obtain ⟨rfl, h2⟩ := hk; exact ⟨_, _, by simp [binOp, intBits_xor], .lit _, h2⟩
  case andNot => obtain ⟨rfl, h2⟩ := hk; exact ⟨_, _, by simp [binOp, intBits_andNot], .lit _, h2⟩
  all_goals (obtain ⟨rfl, h2⟩ := hk; exact ⟨_, _, by simp only [binOp, Op.intCmp, Op.intArith, ne_eq, not_true_eq_false, if_false, Sem.run_pure]; try rfl, .lit _, h2⟩)
theorem bytes_toList (s : ByteArray) : s.toList = s.data.toList := by
  have key : ∀ (n i : Nat) (acc : List UInt8), n = s.size - i → ByteArray.toList.loop s i acc = acc.reverse ++ s.data.toList.drop i := by
    intro n
    induction n with
    | zero =>
      intro i acc h
      have hsz : s.size = s.data.toList.length := by rw [Array.length_toList]; rfl
      rw [ByteArray.toList.loop, if_neg (by omega), List.drop_eq_nil_of_le (by omega)]; simp
    | succ n ih =>
      intro i acc h
      have hsz : s.size = s.data.toList.length := by rw [Array.length_toList]; rfl
      rw [ByteArray.toList.loop, if_pos (by omega), ih (i + 1) _ (by omega)]
      rw [List.drop_eq_getElem_cons (i := i) (by omega)]
      simp only [List.reverse_cons, List.append_assoc, List.singleton_append]
      congr 2
      simp only [ByteArray.get!, Array.getElem_toList]
      exact getElem!_pos _ _ _
  have := key s.size 0 [] (by omega)
  simpa [ByteArray.toList] using this
theorem bytes_ext {a b : ByteArray} (h : a.data.toList = b.data.toList) : a = b := by
  cases a; cases b; congr 1; exact Array.toList_inj.1 h
def AStr (op : BinOp) (a b : List UInt8) (K : AVal → Prop) : Prop :=
  match op with
  | .add => a.length + b.length ≤ 9223372036854775807 ∧ K (.str (a ++ b))
  | .eql => K (.lit (.bool (decide (a = b))))
  | .neq => K (.lit (.bool (!decide (a = b))))
  | .lss => K (.lit (.bool (Op.bytesLess a b)))
  | .leq => K (.lit (.bool (Op.bytesLess a b || decide (a = b))))
  | .gtr => K (.lit (.bool (!(Op.bytesLess a b || decide (a = b)))))
  | .geq => K (.lit (.bool (!Op.bytesLess a b)))
  | _ => False
theorem sound_str {P : Program} {w : World} {C : Ctx} (op : BinOp) (t : TypeId) (a b : ByteArray) {K : AVal → Prop} (hk : AStr op a.data.toList b.data.toList K) :
    ∃ v rv, (binOp op t (.string a) (.string b)).run P w = .ok rv w ∧ VRel C v rv ∧ K v := by
  have hb : (a.data.toList == b.data.toList) = decide (a.data.toList = b.data.toList) := by rw [Bool.eq_iff_iff]; simp
  cases op <;> simp only [AStr] at hk <;> try exact hk.elim
  case add =>
    obtain ⟨h1, h2⟩ := hk
    refine ⟨_, .string (a ++ b), ?_, .str _ _ ?_, h2⟩
    · have hs : ∀ s : ByteArray, s.size = s.data.toList.length := fun s => by rw [Array.length_toList]; rfl
      have hm : IntKind.i64.max = 9223372036854775807 := by decide
      have : ¬ (((a.size + b.size : Nat) : Int) > IntKind.i64.max) := by rw [hm, hs, hs]; omega
      simp only [binOp, Op.stringOp, this, if_false, Sem.run_pure]
    · simp
  all_goals exact ⟨_, _, by simp only [binOp, Op.stringOp, Sem.run_pure, bytes_toList]; try rw [hb], .lit _, hk⟩
inductive EqK where
  | bool | ptr | slice | map | func | iface | other
def eqK (P : Program) (t : TypeId) : EqK :=
  match P.underlying t with
  | some .bool => .bool
  | some (.pointer _) => .ptr
  | some (.slice _) => .slice
  | some (.map _ _) => .map
  | some (.func _ _ _) => .func
  | some (.interface _) => .iface
  | _ => .other
def AVal.isNil : AVal → Option Bool
  | .lit (.pointer none) | .lit (.slice none _ _) | .lit (.map none) | .lit .nilFunc | .lit .nilIface => some true
  | .ptr .. | .fptr .. | .slice .. | .fslice (_ :: _) | .gs _ _ (_ :: _) | .map _ | .fmap _ | .func .. | .iface .. | .iter _ => some false
  | _ => none
inductive Fits : EqK → Value → Prop
  | ptr (p : Option Addr) : Fits .ptr (.pointer p)
  | slice (p : Option Addr) (n c : Nat) : Fits .slice (.slice p n c)
  | map (p : Option Nat) : Fits .map (.map p)
  | nilFunc : Fits .func .nilFunc
  | func (fn : Fn) (a b : Array Value) : Fits .func (.func fn a b)
  | nilIface : Fits .iface .nilIface
  | iface (t : TypeId) (v : Value) : Fits .iface (.iface t v)
def AVal.fits (q : EqK) (x : AVal) : Bool :=
  match q, x with
  | .ptr, .lit (.pointer _) | .ptr, .ptr .. | .ptr, .fptr .. | .ptr, .iter _ => true
  | .slice, .lit (.slice ..) | .slice, .slice .. | .slice, .fslice (_ :: _) | .slice, .gs _ _ (_ :: _) => true
  | .map, .lit (.map _) | .map, .map _ | .map, .fmap _ => true
  | .func, .lit .nilFunc | .func, .func .. => true
  | .iface, .lit .nilIface | .iface, .iface .. => true
  | _, _ => false
theorem fits_ok {C : Ctx} {q : EqK} {x : AVal} {v : Value} (h : VRel C x v) (hf : x.fits q = true) : Fits q v := by
  cases h with
  | lit => cases q <;> cases v <;> simp [AVal.fits] at hf <;> constructor
  | fslice es => cases es <;> cases q <;> simp [AVal.fits] at hf <;> constructor
  | gs tok esz es => cases es <;> cases q <;> simp [AVal.fits] at hf <;> constructor
  | _ => cases q <;> simp [AVal.fits] at hf <;> constructor
def Value.isNil : Value → Bool
  | .pointer none | .slice none _ _ | .map none | .nilFunc | .nilIface => true
  | _ => false
theorem isNil_ok {C : Ctx} {x : AVal} {v : Value} {a : Bool} (h : VRel C x v) (ha : x.isNil = some a) : Value.isNil v = a := by
  cases h with
  | lit =>
    unfold AVal.isNil at ha
    split at ha <;> first | (rename_i e; injection e with e; subst e; simpa [Value.isNil] using ha) | (simp at ha; done) | (rename_i e; cases e) | skip
  | junk => simp [AVal.isNil] at ha
  | str => simp [AVal.isNil] at ha
  | agg => simp [AVal.isNil] at ha
  | tuple => simp [AVal.isNil] at ha
  | eslice => simp [AVal.isNil] at ha
  | yieldf => simp [AVal.isNil] at ha
  | fslice es => cases es <;> simp [AVal.isNil] at ha; simp [Value.isNil, ha]
  | gs tok esz es => cases es <;> simp [AVal.isNil] at ha; simp [Value.isNil, ha]
  | fnil => simp [AVal.isNil] at ha
  | gnil => simp [AVal.isNil] at ha
  | _ => simp [AVal.isNil] at ha; simp [Value.isNil, ha]
def AEq (q : EqK) (x y : AVal) (K : Bool → Prop) : Prop :=
  match q, x, y with
  | .bool, .lit (.bool a), .lit (.bool b) => K (a == b)
  | .other, _, _ | .bool, _, _ => False
  | q, x, y => x.fits q = true ∧ y.fits q = true ∧ ∃ a b, x.isNil = some a ∧ y.isNil = some b ∧ (a = true ∨ b = true) ∧ K (a == b)
theorem run_equal_nil {P : Program} {w : World} {t : TypeId} {rx ry : Value} (h1 : Fits (eqK P t) rx) (h2 : Fits (eqK P t) ry) (hn : Value.isNil rx = true ∨ Value.isNil ry = true) :
    (Op.equal t rx ry).run P w = .ok (Value.isNil rx == Value.isNil ry) w := by
  have hq : ∃ d, P.underlying t = some d ∧ eqK P t = (match d with | .bool => .bool | .pointer _ => .ptr | .slice _ => .slice | .map _ _ => .map | .func _ _ _ => .func | .interface _ => .iface | _ => .other) := by
    cases hu : P.underlying t with
    | none => unfold eqK at h1; rw [hu] at h1; cases h1
    | some d => refine ⟨d, rfl, ?_⟩; unfold eqK; rw [hu]; cases d <;> rfl
  obtain ⟨d, hu, hd⟩ := hq
  rw [hd] at h1 h2
  obtain ⟨m, hm⟩ : ∃ m, Op.maxDepth = m + 1 := ⟨9999, rfl⟩
  unfold Op.equal
  rw [hm]
  cases d <;> simp only at h1 h2 <;> cases h1 <;> cases h2 <;>
    simp only [Op.equalIn, Sem.run_bind, run_underlying hu, Result.andThen_ok] <;> first
    | rfl
    | (rename_i p q; cases p <;> cases q <;> first | rfl | (simp [Value.isNil] at hn; done))
    | (rename_i p n c q m e; cases p <;> cases q <;> first | rfl | (simp [Value.isNil] at hn; done))
    | (simp [Value.isNil] at hn; done)
theorem sound_eq {P : Program} {w : World} {C : Ctx} {t : TypeId} {x y : AVal} {rx ry : Value} (hx : VRel C x rx) (hy : VRel C y ry) {K : Bool → Prop} (hk : AEq (eqK P t) x y K) :
    ∃ b, (Op.equal t rx ry).run P w = .ok b w ∧ K b := by
  unfold AEq at hk
  split at hk
  · rename_i a b hq
    cases hx; cases hy
    have hu : P.underlying t = some .bool := by
      unfold eqK at hq
      split at hq <;> first | assumption | cases hq
    refine ⟨a == b, ?_, hk⟩
    obtain ⟨m, hm⟩ : ∃ m, Op.maxDepth = m + 1 := ⟨9999, rfl⟩
    unfold Op.equal
    rw [hm]
    simp only [Op.equalIn, Sem.run_bind, run_underlying hu, Result.andThen_ok, Sem.run_pure]
  · exact hk.elim
  · exact hk.elim
  · obtain ⟨h1, h2, a, b, h3, h4, h5, h6⟩ := hk
    have e1 := isNil_ok hx h3
    have e2 := isNil_ok hy h4
    refine ⟨a == b, ?_, h6⟩
    rw [run_equal_nil (fits_ok hx h1) (fits_ok hy h2) (by rw [e1, e2]; exact h5), e1, e2]
def ABin (q : EqK) (op : BinOp) (x y : AVal) (K : AVal → Prop) : Prop :=
  match x, y with
  | .lit (.int k a), .lit (.int k' b) => AInt op k a k' b K
  | .str a, .str b => AStr op a b K
  | x, y => (match op with
    | .eql => AEq q x y fun b => K (.lit (.bool b))
    | .neq => AEq q x y fun b => K (.lit (.bool (!b)))
    | _ => False)
theorem sound_bin {P : Program} {w : World} {C : Ctx} {op : BinOp} {t : TypeId} {x y : AVal} {rx ry : Value} (hx : VRel C x rx) (hy : VRel C y ry) {K : AVal → Prop} (hk : ABin (eqK P t) op x y K) :
    ∃ v rv, (binOp op t rx ry).run P w = .ok rv w ∧ VRel C v rv ∧ K v := by
  unfold ABin at hk
  split at hk
  · cases hx; cases hy; exact sound_int op t _ _ _ _ hk
  · cases hx with
    | str _ s1 e1 => cases hy with
      | str _ s2 e2 => subst e1; subst e2; exact sound_str op t s1 s2 hk
  · rename_i n1 n2
    have hfit : (∃ b1 b2, rx = .bool b1 ∧ ry = .bool b2) ∨ (∃ q, Fits q rx ∧ Fits q ry) := by
      have : ∀ K', AEq (eqK P t) x y K' → (∃ b1 b2, rx = .bool b1 ∧ ry = .bool b2) ∨ (∃ q, Fits q rx ∧ Fits q ry) := by
        intro K' h
        unfold AEq at h
        split at h
        · cases hx; cases hy; exact .inl ⟨_, _, rfl, rfl⟩
        · exact h.elim
        · exact h.elim
        · exact .inr ⟨_, fits_ok hx h.1, fits_ok hy h.2.1⟩
      cases op <;> simp only at hk <;> first | exact this _ hk | exact hk.elim
    have hb : op = .eql ∨ op = .neq := by cases op <;> simp only at hk <;> first | exact .inl rfl | exact .inr rfl | exact hk.elim
    rcases hb with rfl | rfl
    · obtain ⟨b, h1, h2⟩ := sound_eq (w := w) hx hy hk
      refine ⟨_, .bool b, ?_, .lit _, h2⟩
      rcases hfit with ⟨b1, b2, rfl, rfl⟩ | ⟨q, f1, f2⟩
      · simp only [binOp, Sem.run_bind, h1, Result.andThen_ok, Sem.run_pure]
      · cases f1 <;> cases f2 <;> simp only [binOp, Sem.run_bind, h1, Result.andThen_ok, Sem.run_pure]
    · obtain ⟨b, h1, h2⟩ := sound_eq (w := w) hx hy hk
      refine ⟨_, .bool (!b), ?_, .lit _, h2⟩
      rcases hfit with ⟨b1, b2, rfl, rfl⟩ | ⟨q, f1, f2⟩
      · simp only [binOp, Sem.run_bind, h1, Result.andThen_ok, Sem.run_pure]
      · cases f1 <;> cases f2 <;> simp only [binOp, Sem.run_bind, h1, Result.andThen_ok, Sem.run_pure]
def AUn (op : UnOp) (x : AVal) (K : AVal → Prop) : Prop :=
  match op, x with
  | .not, .lit (.bool b) => K (.lit (.bool (!b)))
  | .neg, .lit (.int k n) => K (.lit (.int k (k.wrap (0 - n))))
  | .xor, .lit (.int k n) => K (.lit (.int k (bits .xor k (if k.signed then -1 else k.max) n)))
  | _, _ => False
theorem sound_un {P : Program} {w : World} {C : Ctx} {op : UnOp} {x : AVal} {rx : Value} (hx : VRel C x rx) {K : AVal → Prop} (hk : AUn op x K) :
    ∃ v rv, (Op.unary op rx).run P w = .ok rv w ∧ VRel C v rv ∧ K v := by
  unfold AUn at hk
  split at hk
  · cases hx; exact ⟨_, _, rfl, .lit _, hk⟩
  · cases hx; exact ⟨_, _, rfl, .lit _, hk⟩
  · cases hx; exact ⟨_, _, rfl, .lit _, hk⟩
  · exact hk.elim
end Go.AL
namespace Go.AL
def AVal.cell1 : AVal → Bool
  | .junk | .agg _ | .tuple _ | .lit (.agg _) | .lit (.tuple _) => false
  | _ => true
def acells : AVal → Option (List AVal)
  | .agg cs => if cs.all AVal.cell1 then some cs else none
  | v => if v.cell1 then some [v] else none
theorem cell1_ok {C : Ctx} {v : AVal} {rv : Value} (h : VRel C v rv) (hc : v.cell1 = true) : rv.oneCell' = true ∧ rv.cells = #[rv] := by
  cases h with
  | lit => cases rv <;> first | exact ⟨rfl, rfl⟩ | simp [AVal.cell1] at hc
  | junk => simp [AVal.cell1] at hc
  | agg => simp [AVal.cell1] at hc
  | tuple => simp [AVal.cell1] at hc
  | _ => exact ⟨rfl, rfl⟩
structure CellsRel (C : Ctx) (cs : List AVal) (rs : Array Value) : Prop where
  len : rs.size = cs.length
  val : ∀ (i : Nat) v, cs[i]? = some v → ∃ rv, rs[i]? = some rv ∧ VRel C v rv
  one : ∀ (i : Nat) rv, rs[i]? = some rv → rv.oneCell' = true
theorem acells_ok {C : Ctx} {v : AVal} {rv : Value} {cs : List AVal} (h : VRel C v rv) (hc : acells v = some cs) : CellsRel C cs rv.cells := by
  have single : v.cell1 = true → CellsRel C [v] rv.cells := by
    intro h1
    obtain ⟨h2, h3⟩ := cell1_ok h h1
    rw [h3]
    refine ⟨rfl, fun i x hx => ?_, fun i x hx => ?_⟩
    · cases i with
      | zero => simp at hx; subst hx; exact ⟨rv, rfl, h⟩
      | succ i => simp at hx
    · cases i with
      | zero => simp at hx; subst hx; exact h2
      | succ i => simp at hx
  cases h with
  | agg xs rs hn hv =>
    show CellsRel C cs rs
    simp only [acells] at hc
    split at hc
    · rename_i hall
      cases hc
      refine ⟨hn.symm, fun i v hi => ?_, fun i x hx => ?_⟩
      · have := (List.getElem?_eq_some_iff.1 hi).1
        exact ⟨rs[i]'(by omega), Array.getElem?_eq_getElem (by omega), hv i v _ hi (Array.getElem?_eq_getElem (by omega))⟩
      · have hi : i < rs.size := (Array.getElem?_eq_some_iff.1 hx).1
        have hx2 : cs[i]? = some cs[i] := List.getElem?_eq_getElem (by omega)
        exact (cell1_ok (hv i _ x hx2 hx) (List.all_eq_true.1 hall _ (List.mem_of_getElem? hx2))).1
    · cases hc
  | _ =>
    simp only [acells] at hc
    split at hc
    · rename_i h1; cases hc; exact single h1
    · cases hc
def zeroT (P : Program) (t : TypeId) : Option (List AVal) :=
  match P.info? t with
  | some i => match i.zero with
    | some z => if (z.cells.toList.map absV).length = i.size ∧ (z.cells.toList.map absV).all AVal.cell1 then some (z.cells.toList.map absV) else none
    | none => none
  | none => none
theorem absV_cell1 {v : Value} (h : (absV v).cell1 = true) : v.oneCell' = true := by
  cases v <;> first | rfl | simp [absV, AVal.cell1] at h
theorem zeroT_ok {P : Program} {t : TypeId} {cs : List AVal} (h : zeroT P t = some cs) :
    ∃ i z, P.info? t = some i ∧ i.zero = some z ∧ i.size = cs.length ∧ ∀ C, CellsRel C cs z.cells := by
  unfold zeroT at h
  split at h
  · rename_i i hi
    split at h
    · rename_i z hz
      split at h
      · rename_i hc
        cases h
        refine ⟨i, z, hi, hz, hc.1.symm, fun C => ⟨by simp, fun j v hj => ?_, fun j rv hj => ?_⟩⟩
        · simp only [List.getElem?_map, Option.map_eq_some_iff, Array.getElem?_toList] at hj
          obtain ⟨rv, h1, h2⟩ := hj
          exact ⟨rv, h1, h2 ▸ absV_rel C rv⟩
        · refine absV_cell1 (List.all_eq_true.1 hc.2 _ ?_)
          exact List.mem_map.2 ⟨rv, by rw [Array.mem_toList_iff]; exact Array.mem_of_getElem? hj, rfl⟩
      · cases h
    · cases h
  · cases h
theorem run_zeroValue_of {P : Program} {t : TypeId} {i : TypeInfo} {z : Value} (h1 : P.info? t = some i) (h2 : i.zero = some z) (w : World) : (zeroValue t).run P w = .ok z w := by
  simp [zeroValue, typeInfo, h1, h2]
theorem rows_one {C : Ctx} {cs : List AVal} {rs : Array Value} (h : CellsRel C cs rs) (b : Nat) (t : TypeId) : ORel C ⟨b, 0, cs.length, cs.length, t⟩ (.rows [cs]) (.cells rs t) := by
  refine ⟨rs, rfl, h.len, ?_, by simp, ?_⟩
  · intro i e hi
    cases i with
    | zero => simp at hi; subst hi; rfl
    | succ i => simp at hi
  · intro i j e v hi hj
    cases i with
    | zero =>
      simp at hi; subst hi
      obtain ⟨rv, h1, h2⟩ := h.val j v hj
      exact ⟨rv, by simpa using h1, h2, h.one j rv h1⟩
    | succ i => simp at hi
theorem CellsRel.mono {C D : Ctx} (hs : C.sub D) {cs : List AVal} {rs : Array Value} (h : CellsRel C cs rs) : CellsRel D cs rs :=
  ⟨h.len, fun i v hi => let ⟨rv, a, b⟩ := h.val i v hi; ⟨rv, a, b.mono hs⟩, h.one⟩
theorem sound_newVar {P : Program} {C : Ctx} {h : AHeap} {w : World} (hr : HRel C h w) {cs : List AVal} {v : Value} (hc : CellsRel C cs v.cells) (t : TypeId) :
    ∃ D w', (newVar t v).run P w = .ok ⟨w.heap.size, 0, none⟩ w' ∧ C.le h.length D ∧ HRel D (h ++ [some (.rows [cs])]) w' ∧ VRel D (.ptr h.length 0 0) (.pointer (some ⟨w.heap.size, 0, none⟩)) := by
  have hn := (hr.fresh h.length (Nat.le_refl _)).1
  refine ⟨C.with h.length ⟨w.heap.size, 0, cs.length, cs.length, t⟩, { w with heap := w.heap.push (.cells v.cells t) }, by simp [newVar, newRow], Ctx.with_le _ _ _, ?_, ?_⟩
  · exact hr.alloc _ rfl _ (fun _ _ => by simp) 0 cs.length cs.length t (rows_one (hc.mono (Ctx.with_sub _ hn)) _ _)
  · have := VRel.ptr (C := C.with h.length ⟨w.heap.size, 0, cs.length, cs.length, t⟩) h.length 0 0 _ (Ctx.with_self _ _ _)
    simpa using this
def AStore (h : AHeap) (p v : AVal) (n : Nat) (K : AHeap → Prop) : Prop :=
  match p with
  | .ptr a i off => ∃ es e cs, hget h a = some (.rows es) ∧ es[i]? = some e ∧ acells v = some cs ∧ cs.length = n ∧ off + n ≤ e.length ∧
      K (hset h a (.rows (es.set i (e.take off ++ (cs ++ e.drop (off + n))))))
  | _ => False
theorem World.setCell_heap {w : World} {b o : Nat} {v : Value} {c : Array Value} {t : TypeId} {fr : Nat × Nat} (h : w.heap[b]? = some (.cells c t fr)) :
    (w.setCell ⟨b, o, none⟩ v).heap.size = w.heap.size ∧ (w.setCell ⟨b, o, none⟩ v).heap[b]? = some (.cells (c.setIfInBounds o v) t fr) ∧ ∀ b', b' ≠ b → (w.setCell ⟨b, o, none⟩ v).heap[b']? = w.heap[b']? := by
  refine ⟨by simp [World.setCell], ?_, ?_⟩
  · simp [World.setCell, Array.getElem?_modify, h]
  · intro b' hb
    simp only [World.setCell, Array.getElem?_modify]
    rw [if_neg (fun e => hb e.symm)]
def lay (c : Array Value) (o : Nat) : List Value → Array Value
  | [] => c
  | v :: vs => lay (c.setIfInBounds o v) (o + 1) vs
theorem lay_size (vs : List Value) : ∀ (c : Array Value) (o : Nat), (lay c o vs).size = c.size := by
  induction vs with
  | nil => intro c o; rfl
  | cons v vs ih => intro c o; simp [lay, ih]
theorem lay_get (vs : List Value) : ∀ (c : Array Value) (o k : Nat), o + vs.length ≤ c.size → (lay c o vs)[k]? = if o ≤ k ∧ k < o + vs.length then vs[k - o]? else c[k]? := by
  induction vs with
  | nil => intro c o k h; simp only [lay, List.length_nil, Nat.add_zero]; rw [if_neg (by omega)]
  | cons v vs ih =>
    intro c o k h
    simp only [List.length_cons] at h
    simp only [lay]
    rw [ih _ _ _ (by simp; omega)]
    simp only [List.length_cons]
    by_cases h1 : k = o
    · subst h1
      rw [if_neg (by omega), if_pos (by omega)]
      simp only [Array.getElem?_setIfInBounds_self, Nat.sub_self, List.getElem?_cons_zero]
      rw [if_pos (by omega)]
    · by_cases h2 : o + 1 ≤ k ∧ k < o + 1 + vs.length
      · rw [if_pos h2, if_pos (by omega), show k - o = (k - (o + 1)) + 1 by omega, List.getElem?_cons_succ]
      · rw [if_neg h2, if_neg (by omega), Array.getElem?_setIfInBounds_ne (fun e => h1 e.symm)]
theorem run_storeCells_lay {P : Program} (b : Nat) (t : TypeId) : ∀ (vs : List Value) (o i : Nat) (c : Array Value) (w : World), w.heap[b]? = some (.cells c t (0, 0)) → o + i + vs.length ≤ c.size →
    (∀ v ∈ vs, v.oneCell' = true) → ∃ w', (storeCells ⟨b, o, none⟩ vs i).run P w = .ok () w' ∧ w'.heap.size = w.heap.size ∧ w'.heap[b]? = some (.cells (lay c (o + i) vs) t (0, 0)) ∧ (∀ b', b' ≠ b → w'.heap[b']? = w.heap[b']?) ∧ (w'.os, w'.output) = (w.os, w.output) := by
  intro vs
  induction vs with
  | nil => intro o i c w h _ _; exact ⟨w, by simp [storeCells], rfl, h, fun _ _ => rfl, rfl⟩
  | cons v vs ih =>
    intro o i c w h hs hv
    simp only [List.length_cons] at hs
    have hcell : w.cell? ⟨b, o + i, none⟩ = some (c[o + i]'(by omega)) := by simp [World.cell?, h]
    have hfr : w.frozen? ⟨b, o + i, none⟩ = false := by simp [World.frozen?, h]
    obtain ⟨s1, s2, s3⟩ := World.setCell_heap (o := o + i) (v := v) h
    obtain ⟨w', r1, r2, r3, r4, r5⟩ := ih o (i + 1) (c.setIfInBounds (o + i) v) (w.setCell ⟨b, o + i, none⟩ v) s2 (by simp; omega) (fun x hx => hv x (by simp [hx]))
    refine ⟨w', ?_, r2.trans s1, ?_, fun b' hb => (r4 b' hb).trans (s3 b' hb), r5.trans (by unfold World.setCell; split <;> rfl)⟩
    · simp only [storeCells, Sem.run_bind, add_plain, run_store P w _ v _ (hv v (by simp)), hcell, hfr, Bool.false_eq_true, if_false, Result.andThen_ok]
      exact r1
    · rw [r3]; simp only [lay]; rw [Nat.add_assoc]
theorem sound_store {P : Program} {C : Ctx} {h : AHeap} {w : World} (hr : HRel C h w) {t : TypeId} {n : Nat} {agg : Bool} (ht : VarT P t n agg) {p v : AVal} {rp rv : Value} (hp : VRel C p rp) (hv : VRel C v rv) {K : AHeap → Prop}
    (hl : AStore h p v n K) : ∃ w' h', (Instr.storeAt t rp rv).run P w = .ok () w' ∧ HRel C h' w' ∧ h'.length = h.length ∧ K h' := by
  cases hp with
  | ptr a i off L ha =>
    obtain ⟨es, e, cs, h1, h2, h3, h4, h5, h6⟩ := hl
    obtain ⟨hg, _, r, hr1, c, rfl, hrr⟩ := hr.live a _ L h1 ha
    have hcr := acells_ok hv h3
    have he : e.length = L.esz := hrr.len i e h2
    have hi : i < es.length := (List.getElem?_eq_some_iff.1 h2).1
    have hbound : L.base + i * L.esz + off + n ≤ L.size := by
      have : (i + 1) * L.esz ≤ es.length * L.esz := Nat.mul_le_mul_right _ hi
      have h7 := hrr.room
      rw [Nat.add_mul] at this; omega
    obtain ⟨w', s1, s2, s3, s4, s5⟩ := run_storeCells_lay (P := P) L.b L.elem rv.cells.toList (L.base + i * L.esz + off) 0 c w hr1 (by rw [Array.length_toList, hcr.len, hrr.size]; omega)
      (fun x hx => by
        obtain ⟨k, hk⟩ := List.getElem?_of_mem hx
        exact hcr.one k x (by rw [← hk, Array.getElem?_toList]))
    have hlen : rv.cells.size = n := by rw [hcr.len, h4]
    refine ⟨w', _, ?_, ?_, by simp [hset], h6⟩
    · have hs := run_sizeOf' ht w
      simp only [Instr.storeAt, Instr.sureAddr, Sem.run_bind, Sem.run_pure, Result.andThen_ok, storeVar, hs, hlen, ne_eq, not_true_eq_false, if_false, Sem.run_ite]
      exact s1
    · refine hr.turn h1 (fun _ _ => by simp) ha _ s2 s3 s4 _ (fun x hx => ?_) s5
      cases hx
      refine ⟨fun _ _ => by simp, _, rfl, ?_, ?_, ?_, ?_⟩
      · rw [lay_size]; exact hrr.size
      · intro k e' hk
        rw [List.getElem?_set] at hk
        simp only [hi, if_true] at hk
        split at hk
        · cases hk
          simp only [List.length_append, List.length_take, List.length_drop]; omega
        · exact hrr.len k e' hk
      · rw [List.length_set]; exact hrr.room
      · intro k j e' x hk hj
        rw [lay_get _ _ _ _ (by rw [Array.length_toList, hlen, hrr.size]; omega)]
        simp only [Nat.add_zero, Array.length_toList, hlen]
        rw [List.getElem?_set] at hk
        simp only [hi, if_true] at hk
        split at hk
        · rename_i hik
          subst hik
          cases hk
          by_cases hj1 : j < off
          · rw [if_neg (by omega)]
            rw [List.getElem?_append_left (by rw [List.length_take]; omega), List.getElem?_take, if_pos hj1] at hj
            exact hrr.cell i j e x h2 hj
          · by_cases hj2 : j < off + n
            · rw [if_pos (by omega)]
              rw [List.getElem?_append_right (by rw [List.length_take]; omega), List.getElem?_append_left (by rw [List.length_take]; omega)] at hj
              rw [List.length_take, Nat.min_eq_left (by omega)] at hj
              obtain ⟨y, g1, g2⟩ := hcr.val _ x hj
              exact ⟨y, by rw [Array.getElem?_toList, ← g1]; congr 1; omega, g2, hcr.one _ y g1⟩
            · rw [if_neg (by omega)]
              rw [List.getElem?_append_right (by rw [List.length_take]; omega), List.getElem?_append_right (by rw [List.length_take]; omega)] at hj
              rw [List.length_take, Nat.min_eq_left (by omega), List.getElem?_drop] at hj
              exact hrr.cell i j e x h2 (by rw [← hj]; congr 1; omega)
        · rename_i hik
          have hjl : j < L.esz := by rw [← hrr.len k e' hk]; exact (List.getElem?_eq_some_iff.1 hj).1
          have : ¬ (L.base + i * L.esz + off ≤ L.base + k * L.esz + j ∧ L.base + k * L.esz + j < L.base + i * L.esz + off + n) := by
            intro ⟨q1, q2⟩
            rcases Nat.lt_or_gt_of_ne hik with hlt | hlt
            · have : (i + 1) * L.esz ≤ k * L.esz := Nat.mul_le_mul_right _ hlt
              rw [Nat.add_mul] at this; omega
            · have : (k + 1) * L.esz ≤ i * L.esz := Nat.mul_le_mul_right _ hlt
              rw [Nat.add_mul] at this; omega
          rw [if_neg this]
          exact hrr.cell k j e' x hk hj
  | _ => exact hl.elim
end Go.AL
namespace Go.AL
def AElems (h : AHeap) (x : AVal) (esz : Nat) (K : List (List AVal) → Prop) : Prop :=
  match x with
  | .slice a e i n _ => ∃ es, hget h a = some (.rows es) ∧ e = esz ∧ i + n ≤ es.length ∧ K ((es.drop i).take n)
  | .fslice es => (∀ e ∈ es, e.length = esz) ∧ K es
  | .gs _ _ es => (∀ e ∈ es, e.length = esz) ∧ K es
  | .str l => esz = 1 ∧ K (l.map fun c => [.lit (.int .u8 c.toNat)])
  | .lit (.slice none 0 0) => K []
  | .eslice => K []
  | _ => False
structure RowsOf (C : Ctx) (esz : Nat) (es : List (List AVal)) (rs : Array Value) : Prop where
  size : rs.size = es.length * esz
  len : ∀ (i : Nat) e, es[i]? = some e → e.length = esz
  cell : ∀ (i j : Nat) e v, es[i]? = some e → e[j]? = some v → ∃ rv, rs[i * esz + j]? = some rv ∧ VRel C v rv
  one : ∀ (k : Nat) rv, rs[k]? = some rv → rv.oneCell' = true
theorem RowsOf.mono {C D : Ctx} (hs : C.sub D) {esz : Nat} {es : List (List AVal)} {rs : Array Value} (h : RowsOf C esz es rs) : RowsOf D esz es rs :=
  ⟨h.size, h.len, fun i j e v a b => let ⟨rv, x, y⟩ := h.cell i j e v a b; ⟨rv, x, y.mono hs⟩, h.one⟩
theorem rowsOf_nil (C : Ctx) (esz : Nat) : RowsOf C esz [] #[] := ⟨by simp, fun i e h => by simp at h, fun i j e v h => by simp at h, fun k rv h => by simp at h⟩
theorem run_loadCells_rows {P : Program} {C : Ctx} {w : World} (b o esz : Nat) (es : List (List AVal)) (hlen : ∀ (i : Nat) e, es[i]? = some e → e.length = esz)
    (hc : ∀ (i j : Nat) e v, es[i]? = some e → e[j]? = some v → ∃ rv, w.cell? ⟨b, o + i * esz + j, none⟩ = some rv ∧ VRel C v rv ∧ rv.oneCell' = true) :
    ∃ rs, (loadCells ⟨b, o, none⟩ (es.length * esz)).run P w = .ok rs w ∧ RowsOf C esz es rs := by
  let f : Nat → Value := fun k => (w.cell? ⟨b, o + k, none⟩).getD undef
  have hcell : ∀ k, k < es.length * esz → ∃ rv, w.cell? ⟨b, o + k, none⟩ = some rv ∧ rv.oneCell' = true := by
    intro k hk
    have hpos : 0 < esz := by
      rcases Nat.eq_zero_or_pos esz with h | h
      · subst h; simp at hk
      · exact h
    have hi : k / esz < es.length := by rw [Nat.div_lt_iff_lt_mul hpos]; exact hk
    have he : es[k / esz]? = some es[k / esz] := List.getElem?_eq_getElem hi
    have hl := hlen _ _ he
    have hj : k % esz < es[k / esz].length := by rw [hl]; exact Nat.mod_lt _ hpos
    obtain ⟨rv, h1, _, h3⟩ := hc (k / esz) (k % esz) _ _ he (List.getElem?_eq_getElem hj)
    refine ⟨rv, ?_, h3⟩
    rw [← h1]; congr 2
    have := Nat.div_add_mod' k esz
    omega
  refine ⟨((List.range (es.length * esz)).map f).toArray, ?_, ?_⟩
  · refine run_loadCells w _ _ f fun j hj => ?_
    obtain ⟨rv, h1, _⟩ := hcell j hj
    rw [add_plain]
    simp only [f, h1, Option.getD_some]
  · refine ⟨by simp, hlen, ?_, ?_⟩
    · intro i j e v hi hj
      obtain ⟨rv, h1, h2, _⟩ := hc i j e v hi hj
      have hil := (List.getElem?_eq_some_iff.1 hi).1
      have hjl := (List.getElem?_eq_some_iff.1 hj).1
      rw [hlen i e hi] at hjl
      have hlt : i * esz + j < es.length * esz := by
        have : (i + 1) * esz ≤ es.length * esz := Nat.mul_le_mul_right _ hil
        rw [Nat.add_mul] at this; omega
      refine ⟨rv, ?_, h2⟩
      simp only [List.getElem?_toArray, List.getElem?_map, List.getElem?_range hlt, Option.map_some, f]
      rw [← Nat.add_assoc, h1]; rfl
    · intro k rv hk
      simp only [List.getElem?_toArray, List.getElem?_map, Option.map_eq_some_iff] at hk
      obtain ⟨m, h1, h2⟩ := hk
      have hm : m < es.length * esz := List.mem_range.1 (List.mem_of_getElem? h1)
      obtain ⟨rv', h3, h4⟩ := hcell m hm
      simp only [f, h3, Option.getD_some] at h2
      rw [← h2]; exact h4
theorem sound_elems {P : Program} {C : Ctx} {h : AHeap} {x : AVal} {rx : Value} (hx : VRel C x rx) {esz : Nat} {K : List (List AVal) → Prop} (hk : AElems h x esz K) :
    ∃ es n, es.length = n ∧ K es ∧ ∀ w, HRel C h w → ∃ rs, (Builtin.lenOf rx).run P w = .ok n w ∧ (Builtin.firstCells esz n rx).run P w = .ok rs w ∧ RowsOf C esz es rs := by
  cases hx with
  | slice a e i n cap rcap L ha hesz hcap hlen hroom =>
    obtain ⟨es, h1, rfl, h3, h4⟩ := hk
    have hl : ((es.drop i).take n).length = n := by rw [List.length_take, List.length_drop]; omega
    refine ⟨_, n, hl, h4, fun w hr => ?_⟩
    obtain ⟨_, _, r, hr1, c, rfl, hrr⟩ := hr.live a _ L h1 ha
    obtain ⟨rs, g1, g2⟩ := run_loadCells_rows (P := P) (C := C) (w := w) L.b (L.base + i * L.esz) L.esz ((es.drop i).take n) (fun k e hk => by
      rw [List.getElem?_take] at hk
      split at hk
      · rw [List.getElem?_drop] at hk; exact hrr.len _ e hk
      · cases hk) (fun k j e v hk hj => by
      rw [List.getElem?_take] at hk
      split at hk
      · rw [List.getElem?_drop] at hk
        obtain ⟨rv, q1, q2, q3⟩ := live_cell hr h1 ha hk hj
        exact ⟨rv, by rw [← q1]; congr 2; rw [Nat.add_mul]; omega, q2, q3⟩
      · cases hk)
    refine ⟨rs, by simp [Builtin.lenOf], ?_, by rw [← hesz]; exact g2⟩
    simp only [Builtin.firstCells]
    rw [hl] at g1
    rw [← hesz]; exact g1
  | fslice es b base esz' rcap rc hlen hsz hc hv =>
    obtain ⟨h1, h2⟩ := hk
    have hsz' : ∀ (i : Nat) e, es[i]? = some e → e.length = esz := fun i e hi => h1 e (List.mem_of_getElem? hi)
    refine ⟨es, es.length, rfl, h2, fun w hr => ?_⟩
    obtain ⟨rs, g1, g2⟩ := run_loadCells_rows (P := P) (C := C) (w := w) b base esz es hsz' (fun i j e v hi hj => by
      have := (hsz i e hi).symm.trans (hsz' i e hi)
      subst this
      exact ⟨rc i j, (hr.cells _ _ _ (hc i j e v hi hj)).1, hv i j e v hi hj, (hr.cells _ _ _ (hc i j e v hi hj)).2⟩)
    exact ⟨rs, by simp [Builtin.lenOf], g1, g2⟩
  | fnil p => exact ⟨[], 0, rfl, hk.2, fun w _ => ⟨#[], by simp [Builtin.lenOf], by cases p <;> simp [Builtin.firstCells] <;> rfl, rowsOf_nil _ _⟩⟩
  | gs tok esz' es L rcap rc hne htk hesz hlen hroom hsz hc hv =>
    obtain ⟨h1, h2⟩ := hk
    have hsz' : ∀ (i : Nat) e, es[i]? = some e → e.length = esz := fun i e hi => h1 e (List.mem_of_getElem? hi)
    refine ⟨es, es.length, rfl, h2, fun w hr => ?_⟩
    obtain ⟨rs, g1, g2⟩ := run_loadCells_rows (P := P) (C := C) (w := w) L.b L.base esz es hsz' (fun i j e v hi hj => by
      have := (hsz i e hi).symm.trans (hsz' i e hi)
      rw [this] at hc
      exact ⟨rc i j, (hr.cells _ _ _ (hc i j e v hi hj)).1, hv i j e v hi hj, (hr.cells _ _ _ (hc i j e v hi hj)).2⟩)
    exact ⟨rs, by simp [Builtin.lenOf], g1, g2⟩
  | gnil => exact ⟨[], 0, rfl, hk.2, fun w _ => ⟨#[], by simp [Builtin.lenOf], by simp [Builtin.firstCells], rowsOf_nil _ _⟩⟩
  | eslice p =>
    refine ⟨[], 0, rfl, hk, fun w _ => ⟨#[], by simp [Builtin.lenOf], ?_, rowsOf_nil _ _⟩⟩
    cases p <;> simp [Builtin.firstCells, loadCells, loadCellsFrom]
  | str l s hs =>
    obtain ⟨rfl, h2⟩ := hk
    subst hs
    have hsz : s.size = s.data.toList.length := by rw [Array.length_toList]; rfl
    refine ⟨_, s.size, by rw [List.length_map]; exact hsz.symm, h2, fun w _ => ⟨s.data.map fun b => .int .u8 b.toNat, by simp [Builtin.lenOf], ?_, ?_⟩⟩
    · have : s.extract 0 s.size = s := by
        apply bytes_ext
        rw [ByteArray.data_extract]
        have : s.size = s.data.size := rfl
        rw [this, Array.extract_size]
      simp only [Builtin.firstCells, this, Sem.run_pure]
    · refine ⟨by simp, ?_, ?_, ?_⟩
      · intro i e hi
        simp only [List.getElem?_map, Option.map_eq_some_iff] at hi
        obtain ⟨c, _, rfl⟩ := hi; rfl
      · intro i j e v hi hj
        simp only [List.getElem?_map, Option.map_eq_some_iff] at hi
        obtain ⟨c, h1, rfl⟩ := hi
        cases j with
        | zero =>
          simp at hj; subst hj
          refine ⟨.int .u8 c.toNat, ?_, .lit _⟩
          simp only [Nat.mul_one, Nat.add_zero, Array.getElem?_map]
          rw [Array.getElem?_toList] at h1
          rw [h1]; rfl
        | succ j => simp at hj
      · intro k rv hk
        simp only [Array.getElem?_map, Option.map_eq_some_iff] at hk
        obtain ⟨c, _, rfl⟩ := hk; rfl
  | lit =>
    cases rx with
    | slice p n c =>
      cases p with
      | none =>
        cases n with
        | zero =>
          cases c with
          | zero => exact ⟨[], 0, rfl, hk, fun w _ => ⟨#[], by simp [Builtin.lenOf], by simp [Builtin.firstCells], rowsOf_nil _ _⟩⟩
          | succ c => exact hk.elim
        | succ n => exact hk.elim
      | some p => exact hk.elim
    | _ => exact hk.elim
  | _ => exact hk.elim
def appT (P : Program) (argTypes : Array TypeId) : Option (TypeId × Nat) :=
  match argTypes[0]?, argTypes[1]? with
  | some s, some x =>
    match P.underlying s, P.underlying x with
    | some (.slice _), some (.int _) => none
    | some (.slice e), some _ =>
      match P.info? e with
      | some i => match i.zero with
        | some z => if z.cells.size = i.size ∧ i.bytes ≤ 4096 then some (e, i.size) else none
        | none => none
      | none => none
    | _, _ => none
  | _, _ => none
structure AppT (P : Program) (argTypes : Array TypeId) (e esz : Nat) : Prop where
  ex : ∃ s x d i z, argTypes[0]? = some s ∧ argTypes[1]? = some x ∧ P.underlying s = some (.slice e) ∧ P.underlying x = some d ∧ (∀ k, d ≠ .int k) ∧ P.info? e = some i ∧ i.zero = some z ∧ i.size = esz ∧ z.cells.size = esz ∧ i.bytes ≤ 4096
theorem appT_ok {P : Program} {argTypes : Array TypeId} {e esz : Nat} (h : appT P argTypes = some (e, esz)) : AppT P argTypes e esz := by
  unfold appT at h
  split at h
  · rename_i s x h0 h1
    split at h
    · cases h
    · rename_i e' d n1 h2 h3
      split at h
      · rename_i i hi
        split at h
        · rename_i z hz
          split at h
          · rename_i hc
            cases h
            exact ⟨s, x, d, i, z, h0, h1, h2, h3, fun k e => n1 k e, hi, hz, rfl, hc.1, hc.2⟩
          · cases h
        · cases h
      · cases h
    · cases h
  · cases h
theorem growBy_le (need : Nat) : ∀ r c, c ≤ need → Builtin.growBy need r c ≤ 2 * need + 192 := by
  intro r
  induction r with
  | zero => intro c hc; simp only [Builtin.growBy]; omega
  | succ r ih =>
    intro c hc
    simp only [Builtin.growBy]
    split
    · omega
    · by_cases h : c + (c + 768) / 4 ≤ need
      · exact ih _ h
      · cases r with
        | zero => simp only [Builtin.growBy]; omega
        | succ r => simp only [Builtin.growBy]; rw [if_pos (by omega)]; omega
theorem nextslicecap_le (need cap : Nat) (h : cap < need) : Builtin.nextslicecap need cap ≤ 2 * need + 192 := by
  unfold Builtin.nextslicecap
  split
  · omega
  · split
    · omega
    · exact growBy_le need 4 cap (by omega)
theorem run_append_fits {P : Program} {w w' : World} {argTypes : Array TypeId} {e esz : Nat} (ht : AppT P argTypes e esz) (type : TypeId) {base : Option Addr} {sLen sCap n : Nat} {x : Value} {new : Array Value}
    (hn : (Builtin.lenOf x).run P w = .ok n w) (hnew : (Builtin.firstCells esz n x).run P w = .ok new w) (hfit : sLen + n ≤ sCap)
    (hst : match base with | some a => (storeCells (a.add (sLen * esz)) new.toList).run P w = .ok () w' | none => w' = w) :
    (Builtin.append_ argTypes type #[.slice base sLen sCap, x]).run P w = .ok (.slice base (sLen + n) sCap) w' := by
  obtain ⟨s, xt, d, i, z, h0, h1, h2, h3, h4, h5, h6, rfl, h8, h9⟩ := ht.ex
  have hs : (sizeOf e).run P w = .ok i.size w := by simp [sizeOf, typeInfo, h5]
  unfold Builtin.append_
  simp only [h0, h1, List.getElem?_toArray, List.getElem?_cons_zero, List.getElem?_cons_succ, Sem.run_bind, run_underlying h2, Result.andThen_ok, hs, run_underlying h3, Sem.run_pure, Bool.false_eq_true, if_false, Bool.not_false, if_true, Sem.run_ite, hn, hfit, hnew]
  cases base with
  | some a => simp only [Sem.run_bind, hst, Result.andThen_ok, Sem.run_pure]
  | none => simp only [] at hst; subst hst; rfl
theorem run_append_grows {P : Program} {w : World} {argTypes : Array TypeId} {e esz : Nat} (ht : AppT P argTypes e esz) (type : TypeId) {base : Option Addr} {sLen sCap n : Nat} {x : Value} {old new : Array Value}
    (hn : (Builtin.lenOf x).run P w = .ok n w) (hfit : ¬ sLen + n ≤ sCap) (hsmall : sLen + n ≤ 4294967296)
    (hold : (Builtin.firstCells esz sLen (.slice base sLen sCap)).run P { w with drawn := w.drawn + 1 } = .ok old { w with drawn := w.drawn + 1 })
    (hnew : (Builtin.firstCells esz n x).run P { w with drawn := w.drawn + 1 } = .ok new { w with drawn := w.drawn + 1 }) :
    ∃ rest : Array Value, ∃ newCap w', sLen + n ≤ newCap ∧ rest.size = (newCap - (sLen + n)) * esz ∧
      (Builtin.append_ argTypes type #[.slice base sLen sCap, x]).run P w = .ok (.slice (some ⟨w.heap.size, 0, none⟩) (sLen + n) newCap) w' ∧ w'.heap = w.heap.push (.cells (old ++ new ++ rest) e) ∧ (w'.os, w'.output) = (w.os, w.output) := by
  obtain ⟨s, xt, d, i, z, h0, h1, h2, h3, h4, h5, h6, rfl, h8, h9⟩ := ht.ex
  have hs : (sizeOf e).run P w = .ok i.size w := by simp [sizeOf, typeInfo, h5]
  have hti : ∀ w, (typeInfo e).run P w = .ok i w := fun w => by simp [typeInfo, h5]
  have hzv : ∀ w, (zeroValue e).run P w = .ok z w := fun w => run_zeroValue_of h5 h6 w
  have hm : IntKind.i64.max = 9223372036854775807 := by decide
  have hbig : ¬ (((sLen + n : Nat) : Int) > IntKind.i64.max ∧ ((false = true) ∨ i.bytes = 0)) := by rw [hm]; omega
  have hnc : ¬ (Builtin.nextslicecap (sLen + n) sCap * i.bytes > 2 ^ 48) := by
    have q1 := nextslicecap_le (sLen + n) sCap (by omega)
    have : Builtin.nextslicecap (sLen + n) sCap * i.bytes ≤ (2 * 4294967296 + 192) * 4096 := Nat.mul_le_mul (by omega) h9
    omega
  let c := (Question.appendCap (sLen + n) sCap e).cut (w.tape w.drawn (.appendCap (sLen + n) sCap e))
  refine ⟨Builtin.zeroCells z.cells (c - (sLen + n)), c, { w with drawn := w.drawn + 1, heap := w.heap.push (.cells (old ++ new ++ Builtin.zeroCells z.cells (c - (sLen + n))) e) }, ?_, ?_, ?_, rfl, rfl⟩
  · simp only [c, Question.cut]; omega
  · simp [Builtin.zeroCells, h8]
  · unfold Builtin.append_
    simp only [h0, h1, List.getElem?_toArray, List.getElem?_cons_zero, List.getElem?_cons_succ, Sem.run_bind, run_underlying h2, Result.andThen_ok, hs, run_underlying h3, Sem.run_pure, Bool.false_eq_true, if_false, Bool.not_false, if_true, Sem.run_ite, hn, hfit, hti]
    rw [if_neg (by rw [hm]; omega)]
    try simp only [Result.andThen_ok]
    rw [if_neg hnc]
    simp only [Result.andThen_ok, run_choose, Question.forced, Bool.false_eq_true, if_false, run_askRoom, hold, hnew, hzv, newRow, Sem.run_bind, run_newObj, Sem.run_pure]
    rfl
end Go.AL
namespace Go.AL
def AApp (h : AHeap) (s x : AVal) (esz : Nat) (K : AVal → AHeap → Prop) : Prop :=
  AElems h x esz fun new =>
    match s with
    | .lit (.slice none 0 0) | .eslice => new.length ≤ 4294967296 ∧ (new = [] → K s h) ∧ (new ≠ [] → K (.slice h.length esz 0 new.length none) (h ++ [some (.rows new)]))
    | .slice a e i len none => ∃ es, hget h a = some (.rows es) ∧ e = esz ∧ i + len ≤ es.length ∧ len + new.length ≤ 4294967296 ∧
        K (.slice h.length esz 0 (len + new.length) none) (h.set a none ++ [some (.rows ((es.drop i).take len ++ new))])
    | .slice a e i len (some c) => ∃ es, hget h a = some (.rows es) ∧ e = esz ∧ i + c ≤ es.length ∧ len ≤ c ∧ len + new.length ≤ 4294967296 ∧
        (len + new.length ≤ c → K (.slice a esz i (len + new.length) (some c)) (hset h a (.rows (es.take (i + len) ++ (new ++ es.drop (i + len + new.length)))))) ∧
        (c < len + new.length → K (.slice h.length esz 0 (len + new.length) none) (h ++ [some (.rows ((es.drop i).take len ++ new))]))
    | .gs tok e es => e = esz ∧ hget h tok = some (.tok esz es.length) ∧ es.length + new.length ≤ 4294967296 ∧ K (.gs tok esz (es ++ new)) (hset h tok (.tok esz (es.length + new.length)))
    | _ => False
theorem rowsRel_of {C : Ctx} {esz : Nat} {es : List (List AVal)} {rs rest : Array Value} (h : RowsOf C esz es rs) (L : Loc) (hb : L.base = 0) (hesz : L.esz = esz) (hs : L.size = (rs ++ rest).size) : RowsRel C L es (rs ++ rest) := by
  refine ⟨hs.symm, fun i e hi => by rw [hesz]; exact h.len i e hi, ?_, fun i j e v hi hj => ?_⟩
  · rw [hb, hesz, hs, Array.size_append, h.size]; omega
  · obtain ⟨rv, h1, h2⟩ := h.cell i j e v hi hj
    refine ⟨rv, ?_, h2, h.one _ rv h1⟩
    rw [hb, hesz, Nat.zero_add]
    have := (Array.getElem?_eq_some_iff.1 h1).1
    rw [Array.getElem?_append_left this]; exact h1
theorem rowsOf_append {C : Ctx} {esz : Nat} {es fs : List (List AVal)} {rs qs : Array Value} (h : RowsOf C esz es rs) (g : RowsOf C esz fs qs) : RowsOf C esz (es ++ fs) (rs ++ qs) := by
  refine ⟨?_, ?_, ?_, ?_⟩
  · rw [Array.size_append, h.size, g.size, List.length_append, Nat.add_mul]
  · intro i e hi
    rw [List.getElem?_append] at hi
    split at hi
    · exact h.len i e hi
    · exact g.len _ e hi
  · intro i j e v hi hj
    rw [List.getElem?_append] at hi
    split at hi
    · obtain ⟨rv, h1, h2⟩ := h.cell i j e v hi hj
      exact ⟨rv, by rw [Array.getElem?_append_left (Array.getElem?_eq_some_iff.1 h1).1]; exact h1, h2⟩
    · rename_i hlt
      obtain ⟨rv, h1, h2⟩ := g.cell _ j e v hi hj
      refine ⟨rv, ?_, h2⟩
      have hm : es.length * esz ≤ i * esz := Nat.mul_le_mul_right _ (by omega)
      rw [Array.getElem?_append_right (by rw [h.size]; omega), h.size, ← h1]
      congr 1
      rw [Nat.mul_sub_right_distrib]; omega
  · intro k rv hk
    rw [Array.getElem?_append] at hk
    split at hk
    · exact h.one k rv hk
    · exact g.one _ rv hk
theorem new_rows {C : Ctx} {h : AHeap} {w w' : World} (hr : HRel C h w) {esz : Nat} {es : List (List AVal)} {rs rest : Array Value} {e : TypeId} (hrs : RowsOf C esz es rs) (hw : w'.heap = w.heap.push (.cells (rs ++ rest) e)) {rcap : Nat} (hcap : es.length ≤ rcap)
    (hrest : rest.size = (rcap - es.length) * esz) (hio : (w'.os, w'.output) = (w.os, w.output)) :
    ∃ D, C.le h.length D ∧ HRel D (h ++ [some (.rows es)]) w' ∧ VRel D (.slice h.length esz 0 es.length none) (.slice (some ⟨w.heap.size, 0, none⟩) es.length rcap) := by
  have hn := (hr.fresh h.length (Nat.le_refl _)).1
  have hsize : (rs ++ rest).size = rcap * esz := by
    rw [Array.size_append, hrs.size, hrest, ← Nat.add_mul]; congr 1; omega
  refine ⟨C.with h.length ⟨w.heap.size, 0, esz, rcap * esz, e⟩, Ctx.with_le _ _ _, ?_, ?_⟩
  · refine hr.alloc _ hw _ (fun _ _ => by simp) 0 esz (rcap * esz) e ⟨_, rfl, ?_⟩ hio
    exact rowsRel_of (hrs.mono (Ctx.with_sub _ hn)) _ rfl rfl hsize.symm
  · have := VRel.slice (C := C.with h.length ⟨w.heap.size, 0, esz, rcap * esz, e⟩) h.length esz 0 es.length none rcap _ (Ctx.with_self _ _ _) rfl (fun c hc => by cases hc) hcap (by simp)
    simpa using this
theorem rows_over {C : Ctx} {L : Loc} {es new : List (List AVal)} {c rs : Array Value} (hrr : RowsRel C L es c) (hn : RowsOf C L.esz new rs) (k : Nat) (hk : k ≤ es.length) (hroom : L.base + (k + new.length) * L.esz ≤ L.size) :
    RowsRel C L (es.take k ++ (new ++ es.drop (k + new.length))) (lay c (L.base + k * L.esz) rs.toList) := by
  have hsz : rs.toList.length = new.length * L.esz := by rw [Array.length_toList, hn.size]
  have hfit : L.base + k * L.esz + rs.toList.length ≤ c.size := by rw [hsz, hrr.size, Nat.add_assoc, ← Nat.add_mul]; exact hroom
  refine ⟨by rw [lay_size]; exact hrr.size, ?_, ?_, ?_⟩
  · intro i e hi
    rw [List.getElem?_append] at hi
    split at hi
    · rw [List.getElem?_take] at hi
      split at hi
      · exact hrr.len i e hi
      · cases hi
    · rw [List.getElem?_append] at hi
      split at hi
      · exact hn.len _ e hi
      · rw [List.getElem?_drop] at hi; exact hrr.len _ e hi
  · have hl : (es.take k ++ (new ++ es.drop (k + new.length))).length = max es.length (k + new.length) := by
      simp only [List.length_append, List.length_take, List.length_drop]; omega
    rw [hl]
    rcases Nat.le_total es.length (k + new.length) with h | h
    · rw [Nat.max_eq_right h]; exact hroom
    · rw [Nat.max_eq_left h]; exact hrr.room
  · intro i j e v hi hj
    rw [lay_get _ _ _ _ hfit, hsz]
    have hjl : ∀ (m : Nat), e.length = m → j < m := fun m hm => by rw [← hm]; exact (List.getElem?_eq_some_iff.1 hj).1
    have hlt : (es.take k).length = k := by rw [List.length_take]; omega
    rw [List.getElem?_append] at hi
    split at hi
    · rename_i h1
      rw [hlt] at h1
      rw [List.getElem?_take, if_pos h1] at hi
      have := hjl _ (hrr.len i e hi)
      have h2 : (i + 1) * L.esz ≤ k * L.esz := Nat.mul_le_mul_right _ h1
      rw [Nat.add_mul] at h2
      rw [if_neg (by omega)]
      exact hrr.cell i j e v hi hj
    · rename_i h1
      rw [hlt] at h1 hi
      rw [List.getElem?_append] at hi
      split at hi
      · rename_i h2
        have := hjl _ (hn.len _ e hi)
        obtain ⟨rv, g1, g2⟩ := hn.cell _ j e v hi hj
        have h3 : (i - k + 1) * L.esz ≤ new.length * L.esz := Nat.mul_le_mul_right _ h2
        have h4 : i * L.esz = k * L.esz + (i - k) * L.esz := by rw [← Nat.add_mul]; congr 1; omega
        rw [Nat.add_mul] at h3
        rw [if_pos (by omega)]
        refine ⟨rv, ?_, g2, hn.one _ rv g1⟩
        rw [Array.getElem?_toList, ← g1]; congr 1; omega
      · rename_i h2
        rw [List.getElem?_drop] at hi
        have h3 : k + new.length + (i - k - new.length) = i := by omega
        rw [h3] at hi
        have h4 : (k + new.length) * L.esz ≤ i * L.esz := Nat.mul_le_mul_right _ (by omega)
        rw [Nat.add_mul] at h4
        rw [if_neg (by omega)]
        exact hrr.cell i j e v hi hj
end Go.AL
namespace Go.AL
def drewW (w : World) : World := { w with drawn := w.drawn + 1 }
theorem HRel.drewW {C : Ctx} {h : AHeap} {w : World} (hr : HRel C h w) : HRel C h (drewW w) := hr.same rfl
def Out (P : Program) (C : Ctx) (h : AHeap) (w : World) (s : Sem Value) (K : AVal → AHeap → Prop) : Prop :=
  ∃ v rv D h' w', s.run P w = .ok rv w' ∧ C.le h.length D ∧ HRel D h' w' ∧ VRel D v rv ∧ K v h'
theorem app_empty {P : Program} {C : Ctx} {h : AHeap} {w : World} (hr : HRel C h w) {argTypes : Array TypeId} {e esz : Nat} (ht : AppT P argTypes e esz) (type : TypeId) {s x : AVal} {p : Option Addr} {rx : Value} (hs : VRel C s (.slice p 0 0)) (hx : VRel C x rx)
    {K : AVal → AHeap → Prop} (hk : AElems h x esz fun new => new.length ≤ 4294967296 ∧ (new = [] → K s h) ∧ (new ≠ [] → K (.slice h.length esz 0 new.length none) (h ++ [some (.rows new)]))) :
    Out P C h w (Builtin.append_ argTypes type #[.slice p 0 0, rx]) K := by
  obtain ⟨es, n, hn, ⟨hbig, k1, k2⟩, hel⟩ := sound_elems (P := P) hx hk
  by_cases h0 : es = []
  · subst h0
    simp only [List.length_nil] at hn
    subst hn
    obtain ⟨rs, g1, g2, g3⟩ := hel w hr
    have hz : rs = #[] := by have := g3.size; simp at this; exact this
    subst hz
    refine ⟨s, _, C, h, w, run_append_fits ht type (w' := w) g1 g2 (by omega) ?_, .refl _ _, hr, hs, k1 rfl⟩
    cases p <;> simp [storeCells]
  · obtain ⟨rs, g1, g2, g3⟩ := hel (drewW w) hr.drewW
    obtain ⟨rs0, g0, _, _⟩ := hel w hr
    have hpos : 0 < es.length := List.length_pos_iff.2 h0
    have hold : (Builtin.firstCells esz 0 (.slice p 0 0)).run P (drewW w) = .ok #[] (drewW w) := by
      cases p <;> simp [Builtin.firstCells, loadCells, loadCellsFrom]
    obtain ⟨rest, cap, w', q1, q2, q3, q4, q5⟩ := run_append_grows ht type (base := p) (sLen := 0) (sCap := 0) g0 (by omega) (by omega) hold g2
    simp only [Nat.zero_add] at q1 q2 q3
    simp only [Array.empty_append] at q4
    obtain ⟨D, d1, d2, d3⟩ := new_rows hr g3 q4 (rcap := cap) (by omega) (by rw [q2, hn]) q5
    rw [hn] at d3
    have := k2 h0
    rw [hn] at this
    exact ⟨_, _, D, _, w', q3, d1, d2, d3, this⟩
theorem app_slice {P : Program} {C : Ctx} {h : AHeap} {w : World} (hr : HRel C h w) {argTypes : Array TypeId} {e esz : Nat} (ht : AppT P argTypes e esz) (type : TypeId) {x : AVal} {a es' i len rcap : Nat} {L : Loc} {rx : Value} (hx : VRel C x rx)
    (ha : C.μ a = some L) (hesz : L.esz = esz) (hlen : len ≤ rcap) (hroom : L.base + (i + rcap) * L.esz ≤ L.size) (cap : Option Nat) (hcap : ∀ c, cap = some c → rcap = c)
    {K : AVal → AHeap → Prop} (hk : AApp h (.slice a es' i len cap) x esz K) :
    Out P C h w (Builtin.append_ argTypes type #[.slice (some ⟨L.b, L.base + i * L.esz, none⟩) len rcap, rx]) K := by
  unfold AApp at hk
  obtain ⟨new, n, hn, hk', hel⟩ := sound_elems (P := P) hx hk
  obtain ⟨rs, g1, g2, g3⟩ := hel w hr
  have hget : ∃ es, hget h a = some (.rows es) ∧ i + len ≤ es.length ∧ len + new.length ≤ 4294967296 := by
    cases cap with
    | none => obtain ⟨es, h1, _, h3, h4, _⟩ := hk'; exact ⟨es, h1, h3, h4⟩
    | some c => obtain ⟨es, h1, _, h3, h4, h5, _⟩ := hk'; exact ⟨es, h1, by omega, h5⟩
  obtain ⟨es, h1, h2, h3⟩ := hget
  obtain ⟨hg, hfc, r, hr1, c, rfl, hrr⟩ := hr.live a _ L h1 ha
  by_cases hfit : len + n ≤ rcap
  · -- in place
    have hstore : L.base + i * L.esz + len * L.esz + rs.toList.length ≤ c.size := by
      rw [Array.length_toList, g3.size, hrr.size, hn, ← hesz]
      have : (i + (len + n)) * L.esz ≤ (i + rcap) * L.esz := Nat.mul_le_mul_right _ (by omega)
      rw [Nat.add_mul, Nat.add_mul len] at this; omega
    obtain ⟨w', s1, s2, s3, s4, s5⟩ := run_storeCells_lay (P := P) L.b L.elem rs.toList (L.base + i * L.esz + len * L.esz) 0 c w hr1 (by omega) (fun v hv => by
      obtain ⟨k, hk⟩ := List.getElem?_of_mem hv
      exact g3.one k v (by rw [← hk, Array.getElem?_toList]))
    have hrun := run_append_fits ht type (base := some ⟨L.b, L.base + i * L.esz, none⟩) (sLen := len) (sCap := rcap) (w' := w') g1 g2 hfit (by simp only [add_plain]; rw [← hesz]; exact s1)
    have hover := rows_over hrr (by rw [hesz]; exact g3) (i + len) h2 (by
      have : (i + len + new.length) * L.esz ≤ (i + rcap) * L.esz := Nat.mul_le_mul_right _ (by omega)
      omega)
    have e1 : L.base + i * L.esz + len * L.esz + 0 = L.base + (i + len) * L.esz := by rw [Nat.add_mul]; omega
    rw [e1] at s3
    cases cap with
    | some c0 =>
      obtain ⟨es1, q1, q2, q3, q4, q5, q6, q7⟩ := hk'
      rw [h1] at q1; cases q1
      have hc := hcap c0 rfl
      subst hc
      refine ⟨_, _, C, _, w', hrun, .refl _ _, ?_, ?_, q6 (by omega)⟩
      · refine hr.turn h1 (fun _ _ => by simp) ha _ s2 s3 s4 _ (fun x hx => ?_) s5
        cases hx
        exact ⟨fun _ _ => by simp, _, rfl, hover⟩
      · have := VRel.slice (C := C) a esz i (len + new.length) (some rcap) rcap L ha hesz (fun c hc => by cases hc; rfl) (by omega) hroom
        rw [hn] at this ⊢; exact this
    | none =>
      obtain ⟨es1, q1, q2, q3, q4, q5⟩ := hk'
      rw [h1] at q1; cases q1
      have hr2 : HRel C (h.set a none) w' := hr.turn h1 (fun _ _ => by simp) ha _ s2 s3 s4 none (fun x hx => by cases hx) s5
      let M : Loc := ⟨L.b, L.base + i * L.esz, L.esz, L.size, L.elem⟩
      have hfree : ∀ a1 o M1, hget (h.set a none) a1 = some o → locOf C a1 o = some M1 → M1.b ≠ M.b := by
        intro a1 o M1 e1 e2 e3
        rcases hget_set e1 with ⟨_, e4⟩ | ⟨ne, e4⟩
        · cases e4
        · exact ne (hr.inj a1 a o _ M1 L e4 h1 e2 ha e3)
      have hll : (h.set a none).length = h.length := List.length_set
      have hsub := Ctx.with_sub (C := C) M (hr.fresh _ (Nat.le_refl _)).1
      have hnm := hr2.name M (by show L.b < w'.heap.size; rw [s2]; exact hr.there a L ha) hfree hg (fun q => hfc q (Nat.zero_le _)) (.rows ((es.drop i).take len ++ new)) (fun _ _ => by simp) _ s3 (by
        refine ⟨_, rfl, ?_⟩
        rw [hll]
        refine ⟨hover.size, ?_, ?_, ?_⟩
        · intro k e' hk'
          rw [List.getElem?_append] at hk'
          split at hk'
          · rw [List.getElem?_take] at hk'
            split at hk'
            · rw [List.getElem?_drop] at hk'; exact hrr.len _ e' hk'
            · cases hk'
          · have := g3.len _ e' hk'; rw [this]; exact hesz.symm
        · have : ((es.drop i).take len ++ new).length = len + n := by simp only [List.length_append, List.length_take, List.length_drop]; omega
          rw [this]
          show L.base + i * L.esz + (len + n) * L.esz ≤ L.size
          have : (i + (len + n)) * L.esz ≤ (i + rcap) * L.esz := Nat.mul_le_mul_right _ (by omega)
          rw [Nat.add_mul] at this; omega
        · intro k j e' v hk' hj
          have hk2 : (es.take (i + len) ++ (new ++ es.drop (i + len + new.length)))[i + k]? = some e' := by
            have hl1 : (es.take (i + len)).length = i + len := by rw [List.length_take]; omega
            have hl2 : ((es.drop i).take len).length = len := by rw [List.length_take, List.length_drop]; omega
            rw [List.getElem?_append] at hk' ⊢
            rw [hl1]
            rw [hl2] at hk'
            split at hk'
            · rename_i hkl
              rw [if_pos (by omega), List.getElem?_take, if_pos (by omega)]
              rw [List.getElem?_take, if_pos hkl, List.getElem?_drop] at hk'
              exact hk'
            · rename_i hkl
              rw [if_neg (by omega), List.getElem?_append_left (by have := (List.getElem?_eq_some_iff.1 hk').1; omega)]
              rw [← hk']; congr 1; omega
          obtain ⟨rv, z1, z2, z3⟩ := hover.cell (i + k) j e' v hk2 hj
          refine ⟨rv, ?_, z2.mono hsub, z3⟩
          show (lay c (L.base + (i + len) * L.esz) rs.toList)[L.base + i * L.esz + k * L.esz + j]? = some rv
          rw [← z1]; congr 1; rw [Nat.add_mul]; omega)
      rw [hll] at hnm
      refine ⟨_, _, C.with h.length M, _, w', hrun, Ctx.with_le _ _ _, hnm, ?_, q5⟩
      have := VRel.slice (C := C.with h.length M) h.length esz 0 (len + new.length) none rcap M (Ctx.with_self _ _ _) hesz (fun c hc => by cases hc) (by omega) (by
        show L.base + i * L.esz + (0 + rcap) * L.esz ≤ L.size
        rw [Nat.add_mul] at hroom; rw [Nat.zero_add]; omega)
      rw [hn] at this ⊢
      simpa [M] using this
  · -- a new array
    obtain ⟨rs, _, g2, g3⟩ := hel (drewW w) hr.drewW
    have hold : AElems h (.slice a L.esz i len cap) L.esz (fun e => e = (es.drop i).take len) := ⟨es, h1, rfl, h2, rfl⟩
    obtain ⟨old, m, hm, rfl, hel2⟩ := sound_elems (P := P) (VRel.slice a L.esz i len cap rcap L ha rfl hcap hlen hroom) hold
    obtain ⟨ors, o1, o2, o3⟩ := hel2 (drewW w) hr.drewW
    have hlm : ((es.drop i).take len).length = len := by rw [List.length_take, List.length_drop]; omega
    have hml : m = len := by rw [← hm, hlm]
    subst hml
    obtain ⟨rest, ncap, w', q1, q2, q3, q4, q5⟩ := run_append_grows ht type (base := some ⟨L.b, L.base + i * L.esz, none⟩) (sLen := m) (sCap := rcap) g1 hfit (by omega) (by rw [← hesz]; exact o2) g2
    have hcomb := rowsOf_append (by rw [hesz] at o3; exact o3) g3
    have hcl : ((es.drop i).take m ++ new).length = m + n := by rw [List.length_append, hlm, hn]
    obtain ⟨D, d1, d2, d3⟩ := new_rows hr hcomb q4 (rcap := ncap) (by rw [hcl]; exact q1) (by rw [hcl]; exact q2) q5
    rw [hcl] at d3
    cases cap with
    | some c0 =>
      obtain ⟨es1, k1, k2, k3, k4, k5, k6, k7⟩ := hk'
      rw [h1] at k1; cases k1
      have hc := hcap c0 rfl
      subst hc
      have := k7 (by omega)
      rw [hn] at this
      exact ⟨_, _, D, _, w', q3, d1, d2, d3, this⟩
    | none =>
      obtain ⟨es1, k1, k2, k3, k4, k5⟩ := hk'
      rw [h1] at k1; cases k1
      rw [hn] at k5
      refine ⟨_, _, D, _, w', q3, d1, ?_, d3, k5⟩
      have := d2.drop a
      rw [List.set_append_left _ _ (hget_lt h1)] at this
      exact this
def Ctx.grow (C : Ctx) (tok k : Nat) (L : Loc) (b lo : Nat) (f : Nat → Option Value) (hno : ∀ q, lo ≤ q → C.fc b q = none) : Ctx :=
  { C with
    τ := fun a j => if a = tok ∧ j = k then some L else C.τ a j
    fc := fun b' q => if b' = b ∧ lo ≤ q then f q else C.fc b' q
    glob := fun b' l h j v hv => by
      have h0 := C.glob b' l h j v hv
      by_cases e : b' = b ∧ lo ≤ j
      · obtain ⟨e1, e2⟩ := e
        subst e1
        rw [hno j e2] at h0; cases h0
      · rw [if_neg e]; exact h0 }
theorem Ctx.grow_sub {C : Ctx} {tok k : Nat} {L : Loc} {b lo : Nat} {f : Nat → Option Value} (h1 : C.τ tok k = none) (h2 : ∀ q, lo ≤ q → C.fc b q = none) : C.sub (C.grow tok k L b lo f h2) := by
  refine ⟨fun _ _ h => h, fun a j M h => ?_, fun b' q v h => ?_, fun _ _ h => h, rfl⟩
  · simp only [Ctx.grow]
    by_cases e : a = tok ∧ j = k
    · obtain ⟨rfl, rfl⟩ := e; rw [h1] at h; cases h
    · rw [if_neg e]; exact h
  · simp only [Ctx.grow]
    by_cases e : b' = b ∧ lo ≤ q
    · obtain ⟨rfl, e2⟩ := e; rw [h2 q e2] at h; cases h
    · rw [if_neg e]; exact h
theorem HRel.grow {C : Ctx} {h : AHeap} {w : World} (hr : HRel C h w) {tok esz n k : Nat} (ht : hget h tok = some (.tok esz n)) (hk : n < k) (L : Loc) (hesz : L.esz = esz) (hb : L.b < w.heap.size) (lo : Nat) (hlo : ∀ q, lo ≤ q → C.fc L.b q = none)
    (hg : C.g L.b = none) (hfree : ∀ a o M, hget h a = some o → locOf C a o = some M → M.b = L.b → a = tok) (c : Array Value) (hc : w.heap[L.b]? = some (.cells c L.elem (0, 0))) (hsz : c.size = L.size)
    (f : Nat → Option Value) (hf : ∀ q v, lo ≤ q → f q = some v → c[q]? = some v ∧ v.oneCell' = true ∧ q < L.base + k * L.esz) (hlt : lo ≤ L.base + k * L.esz) :
    HRel (C.grow tok k L L.b lo f hlo) (hset h tok (.tok esz k)) w := by
  have hτ := hr.top tok esz n ht k hk
  have hsub := Ctx.grow_sub (L := L) (f := f) hτ hlo
  have hloc : ∀ a o M, hget (hset h tok (.tok esz k)) a = some o → locOf (C.grow tok k L L.b lo f hlo) a o = some M → (a = tok ∧ o = .tok esz k ∧ M = L) ∨ (a ≠ tok ∧ hget h a = some o ∧ locOf C a o = some M) := by
    intro a o M h1 h2
    rcases hget_set h1 with ⟨rfl, e⟩ | ⟨hne, e⟩
    · left
      cases e
      simp only [locOf, Ctx.grow, and_self, if_true] at h2
      cases h2; exact ⟨rfl, rfl, rfl⟩
    · right
      refine ⟨hne, e, ?_⟩
      cases o with
      | tok e' n' => simp only [locOf, Ctx.grow] at h2; rw [if_neg (fun x => hne x.1)] at h2; exact h2
      | _ => exact h2
  refine ⟨?_, hr.frozen, ?_, ?_, ?_, hr.there, ?_, ?_, hr.io⟩
  · intro b q v hv
    simp only [Ctx.grow] at hv
    split at hv
    · rename_i e
      obtain ⟨h1, h2, _⟩ := hf q v e.2 hv
      rw [e.1]
      exact ⟨by simp [World.cell?, hc, h1], h2⟩
    · exact hr.cells b q v hv
  · intro a o M h1 h2
    rcases hloc a o M h1 h2 with ⟨rfl, rfl, rfl⟩ | ⟨hne, h1, h2⟩
    · refine ⟨hg, fun q hq => ?_, _, hc, c, rfl, hsz, hesz⟩
      simp only [liveFrom] at hq
      simp only [Ctx.grow]
      split
      · rename_i e
        cases hfq : f q with
        | none => rfl
        | some v => have := (hf q v e.2 hfq).2.2; omega
      · rename_i e
        exact hlo q (by omega)
    · obtain ⟨g1, g2, r, g3, g4⟩ := hr.live a o M h1 h2
      have hb' : M.b ≠ L.b := fun e => hne (hfree a o M h1 h2 e)
      refine ⟨g1, fun q hq => ?_, r, g3, g4.mono hsub⟩
      simp only [Ctx.grow]
      rw [if_neg (fun e => hb' e.1)]
      exact g2 q hq
  · intro a a' o o' M M' h1 h2 h3 h4 h5
    rcases hloc a o M h1 h3 with ⟨e1, _, l1⟩ | ⟨n1, g1, m1⟩ <;> rcases hloc a' o' M' h2 h4 with ⟨e2, _, l2⟩ | ⟨n2, g2, m2⟩
    · rw [e1, e2]
    · exact absurd (hfree a' o' M' g2 m2 (by rw [← h5, l1])) n2
    · exact absurd (hfree a o M g1 m1 (by rw [h5, l2])) n1
    · exact hr.inj a a' o o' M M' g1 g2 m1 m2 h5
  · intro a ha
    simp only [hset, List.length_set] at ha
    refine ⟨(hr.fresh a ha).1, fun j => ?_⟩
    simp only [Ctx.grow]
    rw [if_neg (fun e => by have := hget_lt ht; omega)]
    exact (hr.fresh a ha).2 j
  · intro a j M hM
    simp only [Ctx.grow] at hM
    split at hM
    · cases hM; exact hb
    · exact hr.thereτ a j M hM
  · intro a e m ha j hj
    rcases hget_set ha with ⟨rfl, e2⟩ | ⟨hne, e2⟩
    · cases e2
      simp only [Ctx.grow]
      rw [if_neg (by omega)]
      exact hr.top _ esz n ht j (by omega)
    · simp only [Ctx.grow]
      rw [if_neg (fun x => hne x.1)]
      exact hr.top a e m e2 j hj
theorem app_gs {P : Program} {C : Ctx} {h : AHeap} {w : World} (hr : HRel C h w) {argTypes : Array TypeId} {e esz : Nat} (ht : AppT P argTypes e esz) (type : TypeId) {x : AVal} {tok es' : Nat} {es : List (List AVal)} {rs rx : Value}
    (hs : VRel C (.gs tok es' es) rs) (hx : VRel C x rx) {K : AVal → AHeap → Prop} (hk : AApp h (.gs tok es' es) x esz K) : Out P C h w (Builtin.append_ argTypes type #[rs, rx]) K := by
  unfold AApp at hk
  obtain ⟨new, n, hn, hk', hel⟩ := sound_elems (P := P) hx hk
  obtain ⟨rfl, htok, hbig, hK⟩ := hk'
  obtain ⟨q0, g1, g2, g3⟩ := hel w hr
  have hset0 : new = [] → hset h tok (.tok es' (es.length + new.length)) = h := by
    intro h0; subst h0
    simp only [List.length_nil, Nat.add_zero, hset]
    apply List.ext_getElem?
    intro i
    rw [List.getElem?_set]
    split
    · rename_i e; subst e
      have hlt := hget_lt htok
      unfold hget at htok
      cases hh : h[tok]? with
      | none => rw [hh] at htok; cases htok
      | some y => rw [hh] at htok; simp only [Option.join] at htok; rw [if_pos hlt]; simp at htok; rw [htok]
    · rfl
  -- the old rows
  have hold : AElems h (.gs tok es' es) es' (fun e => e = es) ∨ True := .inr trivial
  cases hs with
  | gnil =>
    by_cases h0 : new = []
    · have := hset0 h0
      subst h0
      simp only [List.length_nil] at hn
      subst hn
      have hz : q0 = #[] := by have := g3.size; simp at this; exact this
      subst hz
      rw [this] at hK
      exact ⟨_, _, C, h, w, run_append_fits ht type (base := none) (sLen := 0) (sCap := 0) (w' := w) g1 g2 (by omega) rfl, .refl _ _, hr, .gnil tok es', by simpa using hK⟩
    · have hpos : 0 < new.length := List.length_pos_iff.2 h0
      obtain ⟨rs, _, p2, p3⟩ := hel (drewW w) hr.drewW
      obtain ⟨rest, cap, w', q1, q2, q3, q4, q5⟩ := run_append_grows ht type (base := none) (sLen := 0) (sCap := 0) g1 (by omega) (by omega) (old := #[]) (by simp [Builtin.firstCells]) p2
      simp only [Nat.zero_add] at q1 q2 q3
      simp only [Array.empty_append] at q4
      let L : Loc := ⟨w.heap.size, 0, es', (rs ++ rest).size, e⟩
      have hr2 : HRel C h w' := hr.push _ q4 q5
      have hfresh : ∀ q, C.fc w.heap.size q = none := fun q => by
        cases hg : C.fc w.heap.size q with
        | none => rfl
        | some y => exact absurd (hr.fc_lt hg) (Nat.lt_irrefl _)
      have hgr := hr2.grow htok (k := new.length) (by simpa using hpos) L rfl (by show w.heap.size < _; rw [q4]; simp) 0 (fun q _ => hfresh q) (by
        show C.g w.heap.size = none
        cases hg : C.g w.heap.size with
        | none => rfl
        | some y => exact absurd (hr.g_lt hg) (Nat.lt_irrefl _)) (fun a o M m1 m2 m3 => by
          have := hr.loc_lt m2; rw [m3] at this; exact absurd this (Nat.lt_irrefl _)) (rs ++ rest) (by rw [q4]; simp [L]) rfl (fun q => rs[q]?) (fun q v _ hv => by
          have hq := (Array.getElem?_eq_some_iff.1 hv).1
          refine ⟨by rw [Array.getElem?_append_left hq]; exact hv, p3.one q v hv, ?_⟩
          rw [p3.size] at hq
          simpa [L] using hq) (by simp)
      have hsub := Ctx.grow_sub (L := L) (f := fun q => rs[q]?) (b := w.heap.size) (lo := 0) (hr.top tok es' _ htok new.length (by simpa using hpos)) (fun q _ => hfresh q)
      refine ⟨_, _, _, _, w', q3, hsub.le' rfl, ?_, ?_, hK⟩
      · simpa using hgr
      · have hne : ([] : List (List AVal)) ++ new ≠ [] := by simpa using h0
        rw [List.nil_append]
        rw [← hn] at q1 ⊢
        refine .gs tok es' new L cap (fun i j => (rs[i * es' + j]?).getD undef) h0 (by simp [Ctx.grow]) rfl q1 ?_ (fun i e' hi => p3.len i e' hi) (fun i j e' v hi hj => ?_) (fun i j e' v hi hj => ?_)
        · show 0 + cap * es' ≤ (rs ++ rest).size
          rw [Array.size_append, p3.size, q2, ← hn, ← Nat.add_mul, Nat.zero_add]
          exact Nat.mul_le_mul_right _ (by omega)
        · obtain ⟨rv, z1, z2⟩ := p3.cell i j e' v hi hj
          simp only [Ctx.grow, L, Nat.zero_add, true_and, Nat.zero_le, if_true]
          rw [z1]; rfl
        · obtain ⟨rv, z1, z2⟩ := p3.cell i j e' v hi hj
          rw [z1]; exact z2.mono hsub
  | gs _ _ _ L rcap rc hne htk hesz hlen hroom hsz hc hv =>
    have hloc : locOf C tok (.tok es' es.length) = some L := htk
    obtain ⟨hg, hfc, r, hr1, c, rfl, hcs, _⟩ := hr.live tok _ L htok hloc
    simp only [liveFrom] at hfc
    by_cases h0 : new = []
    · have := hset0 h0
      subst h0
      simp only [List.length_nil] at hn
      subst hn
      have hz : q0 = #[] := by have := g3.size; simp at this; exact this
      subst hz
      rw [this] at hK
      refine ⟨_, _, C, h, w, run_append_fits ht type (w' := w) g1 g2 (by omega) (by simp [storeCells]), .refl _ _, hr, ?_, hK⟩
      rw [List.append_nil]
      exact .gs tok es' es L rcap rc hne htk hesz hlen hroom hsz hc hv
    have hpos : 0 < new.length := List.length_pos_iff.2 h0
    by_cases hfit : es.length + n ≤ rcap
    · have hroom2 : L.base + (es.length + n) * L.esz ≤ L.size := by
        have : (es.length + n) * L.esz ≤ rcap * L.esz := Nat.mul_le_mul_right _ hfit
        omega
      have hq0 : q0.toList.length = n * L.esz := by rw [Array.length_toList, g3.size, hn, hesz]
      rw [Nat.add_mul] at hroom2
      have hlay : ∀ q, (lay c (L.base + es.length * L.esz) q0.toList)[q]? = if L.base + es.length * L.esz ≤ q ∧ q < L.base + es.length * L.esz + n * L.esz then q0.toList[q - (L.base + es.length * L.esz)]? else c[q]? := fun q => by
        have := lay_get q0.toList c (L.base + es.length * L.esz) q (by rw [hq0, hcs]; omega)
        rw [hq0] at this; exact this
      obtain ⟨w', s1, s2, s3, s4, s5⟩ := run_storeCells_lay (P := P) L.b L.elem q0.toList (L.base + es.length * L.esz) 0 c w hr1 (by rw [hq0, hcs]; omega) (fun v hv => by
        obtain ⟨k, hk⟩ := List.getElem?_of_mem hv
        exact g3.one k v (by rw [← hk, Array.getElem?_toList]))
      have hrun := run_append_fits ht type (base := some ⟨L.b, L.base, none⟩) (sLen := es.length) (sCap := rcap) (w' := w') g1 g2 hfit (by simp only [add_plain]; rw [← hesz]; exact s1)
      -- the world behind the store, before the cells are told of
      have hr2 : HRel C h w' := by
        refine ⟨fun b q v hx => ?_, fun b x hx => ?_, fun a o M m1 m2 => ?_, hr.inj, hr.fresh, fun a M hM => by rw [s2]; exact hr.there a M hM, fun a k M hM => by rw [s2]; exact hr.thereτ a k M hM, hr.top, s5.trans hr.io⟩
        · by_cases hb : b = L.b
          · subst hb
            have hq : q < L.base + es.length * L.esz := by
              rcases Nat.lt_or_ge q (L.base + es.length * L.esz) with h1 | h1
              · exact h1
              · rw [hfc q h1] at hx; cases hx
            obtain ⟨z1, z2⟩ := hr.cells _ _ _ hx
            refine ⟨?_, z2⟩
            simp only [World.cell?, hr1, Option.isSome_none, Bool.false_eq_true, if_false] at z1
            simp only [World.cell?, s3, Nat.add_zero, Option.isSome_none, Bool.false_eq_true, if_false]
            rw [hlay, if_neg (by omega)]
            exact z1
          · rw [cell_congr (s4 b hb)]; exact hr.cells b q v hx
        · have hb : b ≠ L.b := fun e => by rw [e, hg] at hx; cases hx
          rw [s4 b hb]; exact hr.frozen b x hx
        · obtain ⟨z1, z2, r', z3, z4⟩ := hr.live a o M m1 m2
          by_cases hb : M.b = L.b
          · have := hr.inj a tok o _ M L m1 htok m2 hloc hb
            subst this
            rw [htok] at m1; cases m1
            rw [hloc] at m2; cases m2
            exact ⟨z1, z2, _, s3, _, rfl, by rw [lay_size]; exact hcs, hesz⟩
          · exact ⟨z1, z2, r', by rw [s4 _ hb]; exact z3, z4⟩
      let c' := lay c (L.base + es.length * L.esz + 0) q0.toList
      have hgr := hr2.grow htok (k := es.length + new.length) (by omega) L hesz (by rw [s2]; exact hr.thereτ _ _ _ htk) (L.base + es.length * L.esz) hfc hg (fun a o M m1 m2 m3 => hr.inj a tok o _ M L m1 htok m2 hloc m3) c' s3 (by rw [lay_size]; exact hcs)
        (fun q => if q < L.base + (es.length + n) * L.esz then c'[q]? else none) (fun q v hq hv => by
          split at hv
          · rename_i hlt
            refine ⟨hv, ?_, by rw [hn]; exact hlt⟩
            simp only [c', Nat.add_zero] at hv
            rw [hlay, if_pos (by rw [Nat.add_mul] at hlt; omega), Array.getElem?_toList] at hv
            exact g3.one _ v hv
          · cases hv) (by rw [Nat.add_mul]; omega)
      have hsub := Ctx.grow_sub (L := L) (f := fun q => if q < L.base + (es.length + n) * L.esz then c'[q]? else none) (hr.top tok es' _ htok (es.length + new.length) (by omega)) hfc
      refine ⟨_, _, _, _, w', hrun, hsub.le' rfl, hgr, ?_, hK⟩
      have hcell : ∀ (i j : Nat) e' v, (es ++ new)[i]? = some e' → e'[j]? = some v → ∃ rv, (C.grow tok (es.length + new.length) L L.b (L.base + es.length * L.esz) (fun q => if q < L.base + (es.length + n) * L.esz then c'[q]? else none) hfc).fc L.b (L.base + i * L.esz + j) = some rv ∧ VRel C v rv := by
        intro i j e' v hi hj
        have hjl := (List.getElem?_eq_some_iff.1 hj).1
        rw [List.getElem?_append] at hi
        split at hi
        · rename_i hlt
          rw [hsz i e' hi] at hjl
          have : (i + 1) * L.esz ≤ es.length * L.esz := Nat.mul_le_mul_right _ hlt
          rw [Nat.add_mul] at this
          refine ⟨rc i j, ?_, hv i j e' v hi hj⟩
          simp only [Ctx.grow]
          rw [if_neg (by omega)]
          exact hc i j e' v hi hj
        · rename_i hlt
          obtain ⟨rv, z1, z2⟩ := g3.cell _ j e' v hi hj
          rw [g3.len _ e' hi, ← hesz] at hjl
          have hil := (List.getElem?_eq_some_iff.1 hi).1
          have e1 : i * L.esz = es.length * L.esz + (i - es.length) * L.esz := by rw [← Nat.add_mul]; congr 1; omega
          have e2 : (i - es.length + 1) * L.esz ≤ n * L.esz := Nat.mul_le_mul_right _ (by omega)
          rw [Nat.add_mul] at e2
          refine ⟨rv, ?_, z2⟩
          simp only [Ctx.grow]
          rw [if_pos ⟨trivial, by omega⟩, if_pos (by rw [Nat.add_mul]; omega)]
          simp only [c', Nat.add_zero]
          rw [hlay, if_pos (by omega), Array.getElem?_toList, ← z1]
          congr 1
          rw [← hesz]; omega
      have hl : (es ++ new).length = es.length + n := by rw [List.length_append, hn]
      have := VRel.gs (C := C.grow tok (es.length + new.length) L L.b (L.base + es.length * L.esz) (fun q => if q < L.base + (es.length + n) * L.esz then c'[q]? else none) hfc) tok es' (es ++ new) L rcap
        (fun i j => ((C.grow tok (es.length + new.length) L L.b (L.base + es.length * L.esz) (fun q => if q < L.base + (es.length + n) * L.esz then c'[q]? else none) hfc).fc L.b (L.base + i * L.esz + j)).getD undef)
        (by simp [h0]) (by simp [Ctx.grow]) hesz (by rw [hl]; exact hfit) hroom (fun i e' hi => by
          rw [List.getElem?_append] at hi
          split at hi
          · exact hsz i e' hi
          · rw [hesz]; exact g3.len _ e' hi) (fun i j e' v hi hj => by
          obtain ⟨rv, z1, _⟩ := hcell i j e' v hi hj
          rw [z1]; rfl) (fun i j e' v hi hj => by
          obtain ⟨rv, z1, z2⟩ := hcell i j e' v hi hj
          rw [z1]; exact z2.mono hsub)
      rw [hl] at this
      exact this
    · -- a new array
      obtain ⟨rs, _, p2, p3⟩ := hel (drewW w) hr.drewW
      have hold : AElems h (.gs tok es' es) es' (fun e => e = es) := ⟨fun e he => by
        obtain ⟨i, hi⟩ := List.getElem?_of_mem he
        rw [hsz i e hi]; exact hesz, rfl⟩
      obtain ⟨old, m, hm, rfl, hel2⟩ := sound_elems (P := P) (VRel.gs tok es' es L rcap rc hne htk hesz hlen hroom hsz hc hv) hold
      obtain ⟨ors, o1, o2, o3⟩ := hel2 (drewW w) hr.drewW
      subst hm
      obtain ⟨rest, ncap, w', q1, q2, q3, q4, q5⟩ := run_append_grows ht type (base := some ⟨L.b, L.base, none⟩) (sLen := old.length) (sCap := rcap) g1 hfit (by omega) o2 p2
      have hcomb := rowsOf_append o3 p3
      have hcl : (old ++ new).length = old.length + n := by rw [List.length_append, hn]
      let M : Loc := ⟨w.heap.size, 0, es', (ors ++ rs ++ rest).size, e⟩
      have hr2 : HRel C h w' := hr.push _ q4 q5
      have hfresh : ∀ q, C.fc w.heap.size q = none := fun q => by
        cases hg : C.fc w.heap.size q with
        | none => rfl
        | some y => exact absurd (hr.fc_lt hg) (Nat.lt_irrefl _)
      have hgr := hr2.grow htok (k := old.length + new.length) (by omega) M rfl (by show w.heap.size < _; rw [q4]; simp) 0 (fun q _ => hfresh q) (by
        show C.g w.heap.size = none
        cases hg : C.g w.heap.size with
        | none => rfl
        | some y => exact absurd (hr.g_lt hg) (Nat.lt_irrefl _)) (fun a o M' m1 m2 m3 => by
          have := hr.loc_lt m2; rw [m3] at this; exact absurd this (Nat.lt_irrefl _)) (ors ++ rs ++ rest) (by rw [q4]; simp [M]) rfl (fun q => (ors ++ rs)[q]?) (fun q v _ hv => by
          have hq := (Array.getElem?_eq_some_iff.1 hv).1
          refine ⟨by rw [Array.getElem?_append_left hq]; exact hv, hcomb.one q v hv, ?_⟩
          rw [hcomb.size, hcl, ← hn] at hq
          simpa [M] using hq) (by simp)
      have hsub := Ctx.grow_sub (L := M) (f := fun q => (ors ++ rs)[q]?) (b := w.heap.size) (lo := 0) (hr.top tok es' _ htok (old.length + new.length) (by omega)) (fun q _ => hfresh q)
      refine ⟨_, _, _, _, w', q3, hsub.le' rfl, hgr, ?_, hK⟩
      have := VRel.gs (C := C.grow tok (old.length + new.length) M w.heap.size 0 (fun q => (ors ++ rs)[q]?) (fun q _ => hfresh q)) tok es' (old ++ new) M ncap (fun i j => ((ors ++ rs)[i * es' + j]?).getD undef) (by simp [h0]) (by simp [Ctx.grow]) rfl (by rw [hcl]; exact q1) (by
          show 0 + ncap * es' ≤ (ors ++ rs ++ rest).size
          rw [Array.size_append, hcomb.size, q2, hcl, ← Nat.add_mul, Nat.zero_add]
          exact Nat.mul_le_mul_right _ (by omega)) (fun i e' hi => hcomb.len i e' hi) (fun i j e' v hi hj => by
          obtain ⟨rv, z1, z2⟩ := hcomb.cell i j e' v hi hj
          simp only [Ctx.grow, M, Nat.zero_add, true_and, Nat.zero_le, if_true]
          rw [z1]; rfl) (fun i j e' v hi hj => by
          obtain ⟨rv, z1, z2⟩ := hcomb.cell i j e' v hi hj
          rw [z1]; exact z2.mono hsub)
      rw [hcl] at this
      exact this
end Go.AL
namespace Go.AL
theorem ba_size (s : ByteArray) : s.size = s.data.toList.length := by rw [Array.length_toList]; rfl
def AIndexS (x i : AVal) (K : AVal → Prop) : Prop :=
  match x, i with
  | .str l, .lit (.int _ n) => 0 ≤ n ∧ ∃ c, l[n.toNat]? = some c ∧ K (.lit (.int .u8 c.toNat))
  | _, _ => False
theorem sound_indexS {P : Program} {C : Ctx} {w : World} {t : TypeId} (ht : P.underlying t = some .string) {x i : AVal} {rx ri : Value} (hx : VRel C x rx) (hi : VRel C i ri) {K : AVal → Prop} (hk : AIndexS x i K) :
    ∃ v rv, (Instr.index t rx ri).run P w = .ok rv w ∧ VRel C v rv ∧ K v := by
  cases hx with
  | str l s hs =>
    cases hi with
    | lit =>
      cases ri with
      | int k n =>
        obtain ⟨h1, c, h2, h3⟩ := hk
        subst hs
        refine ⟨_, .int .u8 c.toNat, ?_, .lit _, h3⟩
        have : s[n.toNat]? = some c := by
          rw [Array.getElem?_toList] at h2
          obtain ⟨hlt, he⟩ := Array.getElem?_eq_some_iff.1 h2
          have hlt' : n.toNat < s.size := hlt
          simp only [getElem?_pos, hlt', Option.some.injEq]
          exact he
        simp only [Instr.index, asIntOf, Sem.run_bind, Sem.run_pure, Result.andThen_ok, run_underlying ht, h1, if_true, this]
      | _ => exact hk.elim
    | _ => exact hk.elim
  | _ => exact hk.elim
def ALen (x : AVal) (h : AHeap) (K : AVal → Prop) : Prop :=
  match x with
  | .str l => K (.lit (.int .i64 l.length))
  | .slice _ _ _ n _ => K (.lit (.int .i64 n))
  | .fslice es | .gs _ _ es => K (.lit (.int .i64 es.length))
  | .eslice | .lit (.slice _ 0 _) | .lit (.map none) => K (.lit (.int .i64 0))
  | .map a => ∃ es, hget h a = some (.map es) ∧ K (.lit (.int .i64 es.length))
  | .fmap es => K (.lit (.int .i64 es.length))
  | _ => False
def lenT (P : Program) (argTypes : Array TypeId) : Option EqK :=
  match argTypes[0]? with
  | some t => match P.underlying t with
    | some .string => some .other
    | some (.slice _) => some .slice
    | some (.map _ _) => some .map
    | _ => none
  | none => none
def AVal.lenForm : AVal → Option EqK
  | .str _ => some .other
  | .slice .. | .fslice _ | .gs .. | .eslice | .lit (.slice ..) => some .slice
  | .map _ | .fmap _ | .lit (.map _) => some .map
  | _ => none
theorem sound_len {P : Program} {C : Ctx} {h : AHeap} {w : World} (hr : HRel C h w) {argTypes : Array TypeId} {q : EqK} (ht : lenT P argTypes = some q) (type : TypeId) {x : AVal} {rx : Value} (hx : VRel C x rx) (hf : x.lenForm = some q) {K : AVal → Prop} (hk : ALen x h K) :
    ∃ v rv, (Builtin.len_ argTypes type #[rx]).run P w = .ok rv w ∧ VRel C v rv ∧ K v := by
  unfold lenT at ht
  split at ht
  · rename_i t h0
    have step : ∀ d rv, P.underlying t = some d → ((match d, rx with
        | .string, .string s => pure (goInt s.size)
        | .slice _, .slice _ n _ => pure (goInt n)
        | .map _ _, .map none => pure (goInt 0)
        | .map _ _, .map (some r) => do
          let .map entries _ ← getObj r | stuck "len: map expected"
          pure (goInt entries.size)
        | _, _ => stuck "") : Sem Value).run P w = .ok rv w → (Builtin.len_ argTypes type #[rx]).run P w = .ok rv w := by
      intro d rv hd hrun
      unfold Builtin.len_
      simp only [h0, List.getElem?_toArray, List.getElem?_cons_zero, Sem.run_bind, run_underlying hd, Result.andThen_ok]
      cases d <;> cases rx <;> first | exact hrun | (rename_i r; cases r <;> exact hrun) | (simp at hrun; done) | skip
      all_goals (rename_i r; cases r <;> first | exact hrun | (simp at hrun; done))
    split at ht
    · rename_i hu
      cases ht
      cases hx <;> simp only [AVal.lenForm] at hf <;> try (cases hf; done)
      all_goals first
        | (rename_i l s hs; subst hs; exact ⟨_, .int .i64 s.size, step _ _ hu rfl, by rw [ba_size]; exact .lit _, hk⟩)
        | (split at hf <;> first | (cases hf; done) | (rename_i heq; cases heq))
    · rename_i e hu
      cases ht
      cases hx with
      | slice a es i n cap rcap L ha hesz hcap hlen hroom => exact ⟨_, _, step _ _ hu rfl, .lit _, hk⟩
      | fslice es => exact ⟨_, _, step _ _ hu rfl, .lit _, hk⟩
      | fnil => exact ⟨_, _, step _ _ hu rfl, .lit _, hk⟩
      | gs tok esz es => exact ⟨_, _, step _ _ hu rfl, .lit _, hk⟩
      | gnil => exact ⟨_, _, step _ _ hu rfl, .lit _, hk⟩
      | eslice => exact ⟨_, _, step _ _ hu rfl, .lit _, hk⟩
      | lit =>
        cases rx with
        | slice p n c =>
          cases n with
          | zero => exact ⟨_, _, step _ _ hu rfl, .lit _, hk⟩
          | succ n => exact hk.elim
        | map r => simp [AVal.lenForm] at hf
        | _ => simp [AVal.lenForm] at hf
      | _ => simp [AVal.lenForm] at hf
    · rename_i k e hu
      cases ht
      cases hx with
      | map a L ha =>
        obtain ⟨es, h1, h2⟩ := hk
        obtain ⟨_, _, r, hr1, ms, clock, rfl, hn, _⟩ := hr.live a _ L h1 ha
        refine ⟨_, .int .i64 ms.size, step _ _ hu ?_, by rw [← hn]; exact .lit _, h2⟩
        simp [getObj, Sem.run, Sem.run_bind, Bind.bind, Sem.bind, hr1, goInt]
      | fmap es b ms clock hb hn =>
        refine ⟨_, .int .i64 ms.size, step _ _ hu ?_, by rw [← hn]; exact .lit _, hk⟩
        simp [getObj, Sem.run, Bind.bind, Sem.bind, hr.frozen b _ hb, goInt]
      | lit =>
        cases rx with
        | map r =>
          cases r with
          | none => exact ⟨_, _, step _ _ hu rfl, .lit _, hk⟩
          | some r => exact hk.elim
        | slice p n c => simp [AVal.lenForm] at hf
        | _ => simp [AVal.lenForm] at hf
      | _ => simp [AVal.lenForm] at hf
    · cases ht
  · cases ht
def ABnd (x : Option AVal) (dflt : Nat) (K : Nat → Prop) : Prop :=
  match x with
  | none => K dflt
  | some (.lit (.int _ n)) => 0 ≤ n ∧ K n.toNat
  | _ => False
def aslcV (a e i n : Nat) (cap : Option Nat) (h b : Nat) : AVal := match Nat.ble (b + 1) (cap.getD n) with | true => .slice a e (i + b) (h - b) (cap.map fun c => c - b) | false => .fslice []
def ASlice (x : AVal) (lo hi : Option AVal) (esz : Nat) (K : AVal → Prop) : Prop :=
  match x with
  | .str l => ABnd hi l.length fun h => ABnd lo 0 fun a => a ≤ h ∧ h ≤ l.length ∧ K (.str ((l.take h).drop a))
  | .slice a e i n cap => ABnd hi n fun h => ABnd lo 0 fun b => e = esz ∧ b ≤ h ∧ h ≤ n ∧ (b < cap.getD n ∨ b = h) ∧ K (aslcV a e i n cap h b)
  | .fslice es => ABnd hi es.length fun h => ABnd lo 0 fun b => (∀ e ∈ es, e.length = esz) ∧ b ≤ h ∧ h ≤ es.length ∧ K (.fslice ((es.take h).drop b))
  | .gs _ _ es => ABnd hi es.length fun h => ABnd lo 0 fun b => (∀ e ∈ es, e.length = esz) ∧ b ≤ h ∧ h ≤ es.length ∧ K (.fslice ((es.take h).drop b))
  | .lit (.slice none 0 0) => ABnd hi 0 fun h => ABnd lo 0 fun b => b = 0 ∧ h = 0 ∧ K (.lit (.slice none 0 0))
  | _ => False
theorem abnd_run {P : Program} {C : Ctx} {w : World} {x : Option AVal} {rx : Option Value} (h : match x, rx with | none, none => True | some v, some rv => VRel C v rv | _, _ => False) {dflt : Nat} {K : Nat → Prop} (hk : ABnd x dflt K) :
    ∃ n, K n ∧ (rx = none → n = dflt) ∧ (∀ rv, rx = some rv → ∀ y code, n ≤ y → (Instr.sliceBound rv y code).run P w = .ok n w) := by
  cases x with
  | none =>
    cases rx with
    | none => exact ⟨dflt, hk, fun _ => rfl, fun rv h => by cases h⟩
    | some rv => exact h.elim
  | some v =>
    cases rx with
    | none => exact h.elim
    | some rv =>
      simp only at h
      cases h with
      | lit =>
        cases rv with
        | int k n =>
          obtain ⟨h1, h2⟩ := hk
          refine ⟨n.toNat, h2, fun h => by (cases h), fun rv h y code hy => ?_⟩
          cases h
          have : n ≤ (y : Int) := by omega
          simp only [Instr.sliceBound, asIntOf, Sem.run_bind, Sem.run_pure, Result.andThen_ok, h1, this, and_self, if_true]
        | _ => exact hk.elim
      | _ => exact hk.elim
def OptRel (C : Ctx) : Option AVal → Option Value → Prop
  | none, none => True
  | some v, some rv => VRel C v rv
  | _, _ => False
theorem abnd_run' {P : Program} {C : Ctx} {w : World} {x : Option AVal} {rx : Option Value} (h : OptRel C x rx) {dflt : Nat} {K : Nat → Prop} (hk : ABnd x dflt K) :
    ∃ n, K n ∧ (rx = none → n = dflt) ∧ (∀ rv, rx = some rv → ∀ y code, n ≤ y → (Instr.sliceBound rv y code).run P w = .ok n w) := by
  refine abnd_run (C := C) (x := x) (rx := rx) ?_ hk
  cases x <;> cases rx <;> exact h
theorem run_bounds {P : Program} {w : World} {isSlice : Bool} {len cap n b : Nat} {lo hi : Option Value} (h1 : hi = none → n = len) (h2 : ∀ rv, hi = some rv → ∀ y code, n ≤ y → (Instr.sliceBound rv y code).run P w = .ok n w)
    (h3 : lo = none → b = 0) (h4 : ∀ rv, lo = some rv → ∀ y code, b ≤ y → (Instr.sliceBound rv y code).run P w = .ok b w) (hb : b ≤ n) (hn : n ≤ cap) :
    (Instr.sliceBounds isSlice len cap lo hi none).run P w = .ok (b, n, cap) w := by
  unfold Instr.sliceBounds
  cases hi with
  | none =>
    have := h1 rfl
    subst this
    cases lo with
    | none => have := h3 rfl; subst this; simp
    | some l => simp [h4 l rfl n _ hb]
  | some v =>
    cases lo with
    | none => have := h3 rfl; subst this; simp [h2 v rfl cap _ hn]
    | some l => simp [h2 v rfl cap _ hn, h4 l rfl n _ hb]
def sliceT (P : Program) (t : TypeId) : Option Nat :=
  match P.underlying t with
  | some .string => some 0
  | some (.slice e) => match P.info? e with
    | some i => some i.size
    | none => none
  | _ => none
def AVal.isStr : AVal → Bool
  | .str _ => true
  | _ => false
theorem sound_slice {P : Program} {C : Ctx} {w : World} {t : TypeId} {esz : Nat} (ht : sliceT P t = some esz) {x : AVal} {lo hi : Option AVal} {rx : Value} {rlo rhi : Option Value} (hx : VRel C x rx) (hlo : OptRel C lo rlo) (hhi : OptRel C hi rhi)
    (hstr : x.isStr = true ↔ P.underlying t = some .string) {K : AVal → Prop} (hk : ASlice x lo hi esz K) :
    ∃ v rv, (Instr.sliceAt t rx rlo rhi none).run P w = .ok rv w ∧ VRel C v rv ∧ K v := by
  have hshape : P.underlying t = some .string ∨ ∃ e i, P.underlying t = some (.slice e) ∧ P.info? e = some i ∧ i.size = esz := by
    unfold sliceT at ht
    split at ht
    · exact .inl (by assumption)
    · rename_i e hu
      split at ht
      · rename_i i hi; cases ht; exact .inr ⟨e, i, hu, hi, rfl⟩
      · cases ht
    · cases ht
  have hsl : P.underlying t ≠ some .string → ∀ (a : Option Addr) (len cap b n : Nat), (Instr.sliceBounds true len cap rlo rhi none).run P w = .ok (b, n, cap) w →
      (Instr.sliceAt t (.slice a len cap) rlo rhi none).run P w = .ok (.slice (if cap = b then a else a.map (·.add (b * esz))) (n - b) (cap - b)) w := by
    intro hne a len cap b n hb
    rcases hshape with h | ⟨e, i, hu, hi, rfl⟩
    · exact absurd h hne
    · have hs : (sizeOf e).run P w = .ok i.size w := by simp [sizeOf, typeInfo, hi]
      simp only [Instr.sliceAt, Instr.slice, Sem.run_bind, run_underlying hu, Result.andThen_ok, hb, hs, Sem.run_pure]
  have hne : x.isStr = false → P.underlying t ≠ some .string := fun h e => by rw [hstr.2 e] at h; cases h
  have frozen : ∀ (es : List (List AVal)) (b base esz' rcap : Nat) (rc : Nat → Nat → Value), P.underlying t ≠ some .string → es.length ≤ rcap → (∀ (i : Nat) e, es[i]? = some e → e.length = esz') →
      (∀ (i j : Nat) e v, es[i]? = some e → e[j]? = some v → C.fc b (base + i * esz' + j) = some (rc i j)) → (∀ (i j : Nat) e v, es[i]? = some e → e[j]? = some v → VRel C v (rc i j)) →
      (ABnd hi es.length fun h => ABnd lo 0 fun b => (∀ e ∈ es, e.length = esz) ∧ b ≤ h ∧ h ≤ es.length ∧ K (.fslice ((es.take h).drop b))) →
      ∃ v rv, (Instr.sliceAt t (.slice (some ⟨b, base, none⟩) es.length rcap) rlo rhi none).run P w = .ok rv w ∧ VRel C v rv ∧ K v := by
    intro es b base esz' rcap rc hns hlen hsz hc hv hk
    obtain ⟨n, hk, n1, n2⟩ := abnd_run' (P := P) (w := w) hhi hk
    obtain ⟨m, hk, m1, m2⟩ := abnd_run' (P := P) (w := w) hlo hk
    obtain ⟨k1, k2, k3, k4⟩ := hk
    have hb := run_bounds (isSlice := true) (len := es.length) (cap := rcap) n1 n2 m1 m2 k2 (by omega)
    refine ⟨_, _, hsl hns _ _ _ _ _ hb, ?_, k4⟩
    have hl : ((es.take n).drop m).length = n - m := by rw [List.length_drop, List.length_take]; omega
    have hget : ∀ (i : Nat) e, ((es.take n).drop m)[i]? = some e → es[m + i]? = some e := by
      intro i e h
      rw [List.getElem?_drop, List.getElem?_take] at h
      split at h
      · exact h
      · cases h
    by_cases he : rcap = m
    · rw [if_pos he]
      have h0 : (es.take n).drop m = [] := List.eq_nil_of_length_eq_zero (by omega)
      rw [h0]
      have := VRel.fslice (C := C) [] b base 0 (rcap - m) (fun _ _ => undef) (by simp) (fun i e h => by simp at h) (fun i j e v h => by simp at h) (fun i j e v h => by simp at h)
      rw [show n - m = 0 by omega]
      exact this
    · rw [if_neg he]
      simp only [Option.map_some, add_plain]
      have := VRel.fslice (C := C) ((es.take n).drop m) b (base + m * esz) esz (rcap - m) (fun i j => rc (m + i) j) (by omega) (fun i e h => k1 e (List.mem_of_getElem? (hget i e h))) (fun i j e v h1 h2 => by
        have h3 := hget i e h1
        have h4 := hc (m + i) j e v h3 h2
        have h5 := k1 e (List.mem_of_getElem? h3)
        rw [← hsz _ e h3, h5] at h4
        rw [← h4]; congr 1; rw [Nat.add_mul]; omega) (fun i j e v h1 h2 => hv (m + i) j e v (hget i e h1) h2)
      rw [hl] at this
      exact this
  cases hx with
  | str l s hs =>
    simp only [ASlice] at hk
    obtain ⟨n, hk, n1, n2⟩ := abnd_run' (P := P) (w := w) hhi hk
    obtain ⟨m, hk, m1, m2⟩ := abnd_run' (P := P) (w := w) hlo hk
    obtain ⟨k2, k3, k4⟩ := hk
    subst hs
    have hsz := ba_size s
    have hu := hstr.1 rfl
    have hb := run_bounds (isSlice := false) (len := s.size) (cap := s.size) (fun e => by rw [hsz]; exact n1 e) n2 m1 m2 k2 (by omega)
    refine ⟨_, .string (s.extract m n), ?_, .str _ _ ?_, k4⟩
    · simp [Instr.sliceAt, Instr.slice, run_underlying hu, hb]
    · rw [ByteArray.data_extract, Array.toList_extract]
      simp only [List.extract_eq_take_drop]
      rw [List.drop_take]
  | slice a e i n cap rcap L ha hesz hcap hlen hroom =>
    simp only [ASlice] at hk
    obtain ⟨h, hk, n1, n2⟩ := abnd_run' (P := P) (w := w) hhi hk
    obtain ⟨m, hk, m1, m2⟩ := abnd_run' (P := P) (w := w) hlo hk
    obtain ⟨rfl, k2, k3, k4, k5⟩ := hk
    have hb := run_bounds (isSlice := true) (len := n) (cap := rcap) n1 n2 m1 m2 k2 (by omega)
    unfold aslcV at k5
    split at k5
    case h_2 hnlt =>
      have hmh : m = h := by
        rcases k4 with k4 | k4
        · rw [Nat.ble_eq_true_of_le (by omega)] at hnlt; cases hnlt
        · exact k4
      subst hmh
      refine ⟨_, _, hsl (hne rfl) _ _ _ _ _ hb, ?_, k5⟩
      rw [show m - m = 0 by omega]
      by_cases hrm : rcap = m
      · rw [if_pos hrm]
        exact VRel.fslice (C := C) [] _ _ 0 (rcap - m) (fun _ _ => undef) (by simp) (fun i e h => by simp at h) (fun i j e v h => by simp at h) (fun i j e v h => by simp at h)
      · rw [if_neg hrm]
        simp only [Option.map_some, add_plain]
        exact VRel.fslice (C := C) [] _ _ 0 (rcap - m) (fun _ _ => undef) (by simp) (fun i e h => by simp at h) (fun i j e v h => by simp at h) (fun i j e v h => by simp at h)
    rename_i k4'
    replace k4 := Nat.le_of_ble_eq_true k4'
    have hlt : m < rcap := by
      cases cap with
      | none => simp at k4; omega
      | some c => have := hcap c rfl; simp at k4; omega
    refine ⟨_, _, hsl (hne rfl) _ _ _ _ _ hb, ?_, k5⟩
    rw [if_neg (by omega)]
    simp only [Option.map_some, add_plain]
    have := VRel.slice (C := C) a e (i + m) (h - m) (cap.map fun c => c - m) (rcap - m) L ha hesz (fun c hc => by
      cases cap with
      | none => cases hc
      | some c0 => have := hcap c0 rfl; simp at hc; omega) (by omega) (by
        rw [show i + m + (rcap - m) = i + rcap by omega]; exact hroom)
    rw [Nat.add_mul, ← Nat.add_assoc, hesz] at this
    rw [hesz]
    exact this
  | fslice es b base esz' rcap rc hlen hsz hc hv => exact frozen es b base esz' rcap rc (hne rfl) hlen hsz hc hv hk
  | gs tok es' es L rcap rc hnn htk hesz hlen hroom hsz hc hv => exact frozen es L.b L.base L.esz rcap rc (hne rfl) hlen hsz hc hv hk
  | fnil p =>
    simp only [ASlice] at hk
    obtain ⟨h, hk, n1, n2⟩ := abnd_run' (P := P) (w := w) hhi hk
    obtain ⟨m, hk, m1, m2⟩ := abnd_run' (P := P) (w := w) hlo hk
    obtain ⟨k1, k2, k3, k4⟩ := hk
    simp only [List.length_nil] at k3 n1
    have hb := run_bounds (isSlice := true) (len := 0) (cap := 0) n1 n2 m1 m2 k2 (by omega)
    have h0 : m = 0 := by omega
    have h1 : h = 0 := by omega
    subst h0; subst h1
    exact ⟨_, _, hsl (hne rfl) _ _ _ _ _ hb, by cases p <;> simpa using VRel.fnil _, k4⟩
  | gnil =>
    simp only [ASlice] at hk
    obtain ⟨h, hk, n1, n2⟩ := abnd_run' (P := P) (w := w) hhi hk
    obtain ⟨m, hk, m1, m2⟩ := abnd_run' (P := P) (w := w) hlo hk
    obtain ⟨k1, k2, k3, k4⟩ := hk
    simp only [List.length_nil] at k3 n1
    have hb := run_bounds (isSlice := true) (len := 0) (cap := 0) n1 n2 m1 m2 k2 (by omega)
    have h0 : m = 0 := by omega
    have h1 : h = 0 := by omega
    subst h0; subst h1
    exact ⟨_, _, hsl (hne rfl) _ _ _ _ _ hb, by simpa using VRel.fnil none, k4⟩
  | lit =>
    cases rx with
    | slice p n c =>
      cases p with
      | none =>
        cases n with
        | zero =>
          cases c with
          | zero =>
            simp only [ASlice] at hk
            obtain ⟨h, hk, n1, n2⟩ := abnd_run' (P := P) (w := w) hhi hk
            obtain ⟨m, hk, m1, m2⟩ := abnd_run' (P := P) (w := w) hlo hk
            obtain ⟨rfl, rfl, k4⟩ := hk
            have hb := run_bounds (isSlice := true) (len := 0) (cap := 0) n1 n2 m1 m2 (Nat.le_refl _) (Nat.le_refl _)
            exact ⟨_, _, hsl (hne rfl) _ _ _ _ _ hb, by simpa using VRel.lit _, k4⟩
          | succ c => exact hk.elim
        | succ n => exact hk.elim
      | some p => exact hk.elim
    | _ => exact hk.elim
  | _ => exact hk.elim
end Go.AL
namespace Go.AL
def AFill (places : List (Nat × Nat)) : List AVal → List (Nat × AVal) → (List AVal → Prop) → Prop
  | cells, [], K => K cells
  | cells, (i, v) :: rest, K => ∃ p cs, places[i]? = some p ∧ acells v = some cs ∧ cs.length = p.2 ∧ p.1 + p.2 ≤ cells.length ∧ AFill places (cells.take p.1 ++ (cs ++ cells.drop (p.1 + p.2))) rest K
def buildT (P : Program) (t : TypeId) : Option (List AVal × List (Nat × Nat)) :=
  match P.underlying t, zeroT P t with
  | some (.struct fields), some zero => (fields.toList.mapM (fun f => (P.info? f.type).map fun i => (f.offset, i.size))).map fun ps => (zero, ps)
  | some (.array n e), some zero => (P.info? e).map fun i => (zero, (List.range n).map fun k => (k * i.size, i.size))
  | _, _ => none
def CRel (C : Ctx) (cs : List AVal) (rs : Array Value) : Prop := rs.size = cs.length ∧ ∀ (i : Nat) v, cs[i]? = some v → ∃ rv, rs[i]? = some rv ∧ VRel C v rv
theorem zip_lay (vs : List Value) (off : Nat) : ∀ (k : Nat) (c : Array Value), (vs.zipIdx k).foldl (fun cs p => cs.setIfInBounds (off + p.2) p.1) c = lay c (off + k) vs := by
  induction vs with
  | nil => intro k c; rfl
  | cons v vs ih => intro k c; simp only [List.zipIdx_cons, List.foldl_cons, lay]; rw [ih]; rfl
theorem fold_lay (vs : Array Value) (off : Nat) (c : Array Value) : vs.zipIdx.foldl (fun cs (x : Value × Nat) => cs.setIfInBounds (off + x.2) x.1) c = lay c off vs.toList := by
  rw [← Array.foldl_toList, Array.toList_zipIdx, zip_lay]; rfl
theorem crel_lay {C : Ctx} {cells cs : List AVal} {rs vs : Array Value} (h : CRel C cells rs) (hv : CellsRel C cs vs) (off : Nat) (hoff : off + cs.length ≤ cells.length) :
    CRel C (cells.take off ++ (cs ++ cells.drop (off + cs.length))) (lay rs off vs.toList) := by
  have hvl : vs.toList.length = cs.length := by rw [Array.length_toList, hv.len]
  refine ⟨by rw [lay_size, h.1]; simp only [List.length_append, List.length_take, List.length_drop]; omega, fun i v hi => ?_⟩
  rw [lay_get _ _ _ _ (by rw [hvl, h.1]; exact hoff), hvl]
  have hl : (cells.take off).length = off := by rw [List.length_take]; omega
  rw [List.getElem?_append] at hi
  split at hi
  · rename_i h1
    rw [hl] at h1
    rw [List.getElem?_take, if_pos h1] at hi
    rw [if_neg (by omega)]
    exact h.2 i v hi
  · rename_i h1
    rw [hl] at h1 hi
    rw [List.getElem?_append] at hi
    split at hi
    · rw [if_pos (by omega), Array.getElem?_toList]
      exact hv.val _ v hi
    · rw [List.getElem?_drop] at hi
      rw [if_neg (by omega)]
      exact h.2 i v (by rw [← hi]; congr 1; omega)
def PartsRel (C : Ctx) : List (Nat × AVal) → List (Nat × Value) → Prop
  | [], [] => True
  | (i, v) :: xs, (j, rv) :: ys => i = j ∧ VRel C v rv ∧ PartsRel C xs ys
  | _, _ => False
theorem fill_ok {C : Ctx} (places : List (Nat × Nat)) : ∀ (parts : List (Nat × AVal)) (rparts : List (Nat × Value)) (cells : List AVal) (rs : Array Value) (K : List AVal → Prop), PartsRel C parts rparts → CRel C cells rs → AFill places cells parts K →
    ∃ out rout, Instr.fill (places.toArray[·]?) rs rparts = some rout ∧ CRel C out rout ∧ K out := by
  intro parts
  induction parts with
  | nil =>
    intro rparts cells rs K hp hc hk
    cases rparts with
    | nil => exact ⟨cells, rs, rfl, hc, hk⟩
    | cons y ys => exact hp.elim
  | cons x xs ih =>
    intro rparts cells rs K hp hc hk
    cases rparts with
    | nil => obtain ⟨i, v⟩ := x; exact hp.elim
    | cons y ys =>
      obtain ⟨i, v⟩ := x
      obtain ⟨j, rv⟩ := y
      obtain ⟨rfl, hv, hrest⟩ := hp
      obtain ⟨p, cs, h1, h2, h3, h4, h5⟩ := hk
      have hcr := acells_ok hv h2
      have hsz : rv.cells.size = p.2 := by rw [hcr.len, h3]
      obtain ⟨out, rout, g1, g2, g3⟩ := ih ys _ (lay rs p.1 rv.cells.toList) K hrest (by rw [← h3]; exact crel_lay hc hcr p.1 (by rw [h3]; exact h4)) h5
      refine ⟨out, rout, ?_, g2, g3⟩
      simp only [Instr.fill, List.getElem?_toArray, h1]
      have hno : ¬ ((decide (rv.cells.size ≠ p.2) || decide (p.1 + rv.cells.size > rs.size)) = true) := by
        rw [hsz, hc.1]; simp; exact h4
      rw [if_neg hno, fold_lay]
      simpa only [List.getElem?_toArray] using g1
theorem crel_zero {C : Ctx} {cs : List AVal} {rs : Array Value} (h : CellsRel C cs rs) : CRel C cs rs := ⟨h.len, h.val⟩
theorem crel_agg {C : Ctx} {cs : List AVal} {rs : Array Value} (h : CRel C cs rs) : VRel C (.agg cs) (.agg rs) :=
  .agg cs rs h.1.symm fun i v rv h1 h2 => by
    obtain ⟨rv', h3, h4⟩ := h.2 i v h1
    rw [h2] at h3; cases h3; exact h4
theorem fill_ext {p q : Nat → Option (Nat × Nat)} (h : ∀ k x, p k = some x → q k = some x) : ∀ (parts : List (Nat × Value)) (cs out : Array Value), Instr.fill p cs parts = some out → Instr.fill q cs parts = some out
  | [], cs, out, hf => hf
  | (i, v) :: rest, cs, out, hf => by
    simp only [Instr.fill] at hf ⊢
    cases hp : p i with
    | none => rw [hp] at hf; cases hf
    | some x =>
      rw [hp] at hf
      rw [h i x hp]
      simp only at hf ⊢
      split at hf
      · cases hf
      · rename_i hn
        rw [if_neg hn]
        exact fill_ext h rest _ _ hf
theorem sound_build {P : Program} {C : Ctx} {w : World} {t : TypeId} {zero : List AVal} {places : List (Nat × Nat)} (ht : buildT P t = some (zero, places)) {parts : List (Nat × AVal)} {rparts : Array (Nat × Value)} (hp : PartsRel C parts rparts.toList) {K : AVal → Prop}
    (hk : AFill places zero parts fun cs => K (.agg cs)) : ∃ v rv, (Instr.build t rparts).run P w = .ok rv w ∧ VRel C v rv ∧ K v := by
  unfold buildT at ht
  split at ht
  · rename_i fields zero' hu hz
    cases hm : fields.toList.mapM (fun f => (P.info? f.type).map fun i => (f.offset, i.size)) with
    | none => rw [hm] at ht; cases ht
    | some ps =>
      rw [hm] at ht
      cases ht
      obtain ⟨i, z, h1, h2, h3, h4⟩ := zeroT_ok hz
      obtain ⟨out, rout, g1, g2, g3⟩ := fill_ok places parts rparts.toList _ z.cells _ hp (crel_zero (h4 C)) hk
      refine ⟨_, .agg rout, ?_, crel_agg g2, g3⟩
      refine run_build w t rparts rout ?_
      unfold Program.built
      simp only [h1, hu, h2, hm]
      exact g1
  · rename_i n e zero' hu hz
    cases hi : P.info? e with
    | none => rw [hi] at ht; cases ht
    | some ie =>
      rw [hi] at ht
      simp only [Option.map_some, Option.some.injEq, Prod.mk.injEq] at ht
      obtain ⟨rfl, rfl⟩ := ht
      obtain ⟨i, z, h1, h2, h3, h4⟩ := zeroT_ok hz
      obtain ⟨out, rout, g1, g2, g3⟩ := fill_ok _ parts rparts.toList _ z.cells _ hp (crel_zero (h4 C)) hk
      refine ⟨_, .agg rout, ?_, crel_agg g2, g3⟩
      have g4 := fill_ext (q := fun k => some (k * ie.size, ie.size)) (fun k p hp => by
        simp only [List.getElem?_toArray, List.getElem?_map, Option.map_eq_some_iff] at hp
        obtain ⟨k', hk', rfl⟩ := hp
        rw [List.getElem?_range] at hk'
        · cases hk'; rfl
        · by_cases hlt : k < n
          · exact hlt
          · rw [List.getElem?_eq_none (by simp; omega)] at hk'; cases hk') _ _ _ g1
      unfold Instr.build
      simp only [Sem.run_bind, run_zeroValue_of h1 h2, Result.andThen_ok, run_underlying hu, sizeOf, typeInfo, run_program, hi, Sem.run_pure, g4]
  · cases ht
def ASet (esz : Nat) : List (List AVal) → List (Nat × AVal) → (List (List AVal) → Prop) → Prop
  | es, [], K => K es
  | es, (i, v) :: rest, K => ∃ cs, acells v = some cs ∧ cs.length = esz ∧ i < es.length ∧ ASet esz (es.set i cs) rest K
theorem set_ok {C : Ctx} (esz : Nat) : ∀ (parts : List (Nat × AVal)) (rparts : List (Nat × Value)) (es : List (List AVal)) (rs : Array Value) (K : List (List AVal) → Prop), PartsRel C parts rparts → RowsOf C esz es rs → ASet esz es parts K →
    ∃ out rout, Instr.fill (fun i => some (i * esz, esz)) rs rparts = some rout ∧ RowsOf C esz out rout ∧ out.length = es.length ∧ K out := by
  intro parts
  induction parts with
  | nil =>
    intro rparts es rs K hp hc hk
    cases rparts with
    | nil => exact ⟨es, rs, rfl, hc, rfl, hk⟩
    | cons y ys => exact hp.elim
  | cons x xs ih =>
    intro rparts es rs K hp hc hk
    cases rparts with
    | nil => obtain ⟨i, v⟩ := x; exact hp.elim
    | cons y ys =>
      obtain ⟨i, v⟩ := x
      obtain ⟨j, rv⟩ := y
      obtain ⟨rfl, hv, hrest⟩ := hp
      obtain ⟨cs, h2, h3, h4, h5⟩ := hk
      have hcr := acells_ok hv h2
      have hsz : rv.cells.size = esz := by rw [hcr.len, h3]
      have hvl : rv.cells.toList.length = esz := by rw [Array.length_toList, hsz]
      have hfit : i * esz + esz ≤ rs.size := by
        rw [hc.size]
        have : (i + 1) * esz ≤ es.length * esz := Nat.mul_le_mul_right _ h4
        rw [Nat.add_mul] at this; omega
      have hnew : RowsOf C esz (es.set i cs) (lay rs (i * esz) rv.cells.toList) := by
        refine ⟨by rw [lay_size, hc.size, List.length_set], ?_, ?_, ?_⟩
        · intro k e hk
          rw [List.getElem?_set] at hk
          split at hk
          · (try simp only [h4, if_true] at hk); cases hk; exact h3
          · exact hc.len k e hk
        · intro k q e u hk hq
          rw [lay_get _ _ _ _ (by rw [hvl]; exact hfit), hvl]
          rw [List.getElem?_set] at hk
          split at hk
          · rename_i hik
            subst hik
            (try simp only [h4, if_true] at hk)
            cases hk
            have := (List.getElem?_eq_some_iff.1 hq).1
            rw [if_pos (by omega), Array.getElem?_toList]
            obtain ⟨x, z1, z2⟩ := hcr.val q u hq
            exact ⟨x, by rw [← z1]; congr 1; omega, z2⟩
          · rename_i hik
            have hql := (List.getElem?_eq_some_iff.1 hq).1
            rw [hc.len k e hk] at hql
            rw [if_neg ?_]
            · exact hc.cell k q e u hk hq
            · intro ⟨q1, q2⟩
              rcases Nat.lt_or_gt_of_ne hik with hlt | hlt
              · have : (i + 1) * esz ≤ k * esz := Nat.mul_le_mul_right _ hlt
                rw [Nat.add_mul] at this; omega
              · have : (k + 1) * esz ≤ i * esz := Nat.mul_le_mul_right _ hlt
                rw [Nat.add_mul] at this; omega
        · intro k x hk
          rw [lay_get _ _ _ _ (by rw [hvl]; exact hfit)] at hk
          split at hk
          · rw [Array.getElem?_toList] at hk; exact hcr.one _ x hk
          · exact hc.one k x hk
      obtain ⟨out, rout, g1, g2, g3, g4⟩ := ih ys _ (lay rs (i * esz) rv.cells.toList) K hrest hnew h5
      refine ⟨out, rout, ?_, g2, by rw [g3, List.length_set], g4⟩
      simp only [Instr.fill]
      have hno : ¬ ((decide (rv.cells.size ≠ esz) || decide (i * esz + rv.cells.size > rs.size)) = true) := by
        rw [hsz]; simp; omega
      rw [if_neg hno, fold_lay]
      exact g1
theorem rows_zero {C : Ctx} {cs : List AVal} {rs : Array Value} (h : CellsRel C cs rs) (n : Nat) : RowsOf C cs.length (List.replicate n cs) ((Array.range (n * cs.length)).map (fun i => rs[i % rs.size]!)) := by
  have hget : ∀ k, k < n * cs.length → ∃ rv, rs[k % rs.size]? = some rv ∧ ((Array.range (n * cs.length)).map (fun i => rs[i % rs.size]!))[k]? = some rv := by
    intro k hk
    have hpos : 0 < cs.length := by
      rcases Nat.eq_zero_or_pos cs.length with h0 | h0
      · rw [h0] at hk; simp at hk
      · exact h0
    have hlt : k % rs.size < rs.size := by rw [h.len]; exact Nat.mod_lt _ hpos
    refine ⟨rs[k % rs.size], Array.getElem?_eq_getElem hlt, ?_⟩
    simp [hk, hlt]
  refine ⟨by simp, ?_, ?_, ?_⟩
  · intro i e hi
    rw [List.getElem?_replicate] at hi
    split at hi
    · cases hi; rfl
    · cases hi
  · intro i j e v hi hj
    rw [List.getElem?_replicate] at hi
    split at hi
    · rename_i hin
      cases hi
      have hjl := (List.getElem?_eq_some_iff.1 hj).1
      have hk : i * cs.length + j < n * cs.length := by
        have : (i + 1) * cs.length ≤ n * cs.length := Nat.mul_le_mul_right _ hin
        rw [Nat.add_mul] at this; omega
      obtain ⟨rv, h1, h2⟩ := hget _ hk
      have hm : (i * cs.length + j) % rs.size = j := by rw [h.len, Nat.mul_add_mod_self_right]; exact Nat.mod_eq_of_lt hjl
      rw [hm] at h1
      obtain ⟨rv', h3, h4⟩ := h.val j v hj
      rw [h1] at h3; cases h3
      exact ⟨rv, h2, h4⟩
    · cases hi
  · intro k rv hk
    have hkl := (Array.getElem?_eq_some_iff.1 hk).1
    simp only [Array.size_map, Array.size_range] at hkl
    obtain ⟨rv', h1, h2⟩ := hget k hkl
    rw [hk] at h2; cases h2
    exact h.one _ rv h1
def rowT (P : Program) (t : TypeId) : Option (TypeId × List AVal) :=
  match P.underlying t with
  | some (.slice e) => match P.info? e with
    | some i => if i.bytes ≤ 4096 then (zeroT P e).map fun z => (e, z) else none
    | none => none
  | _ => none
theorem rowT_ok {P : Program} {t e : TypeId} {z : List AVal} (h : rowT P t = some (e, z)) : P.underlying t = some (.slice e) ∧ zeroT P e = some z ∧ ∃ i, P.info? e = some i ∧ i.bytes ≤ 4096 := by
  unfold rowT at h
  split at h
  · rename_i e' hu
    split at h
    · rename_i i hi
      split at h
      · rename_i hb
        cases hz : zeroT P e' with
        | none => rw [hz] at h; cases h
        | some z' => rw [hz] at h; cases h; exact ⟨hu, hz, i, hi, hb⟩
      · cases h
    · cases h
  · cases h
theorem sliceOf_new {C : Ctx} {h : AHeap} {w : World} (hr : HRel C h w) {esz : Nat} {es : List (List AVal)} {rs : Array Value} (hrs : RowsOf C esz es rs) (e : TypeId) (n : Nat) (hn : n ≤ es.length) :
    ∃ D, C.le h.length D ∧ HRel D (h ++ [some (.rows es)]) { w with heap := w.heap.push (.cells rs e) } ∧ VRel D (.slice h.length esz 0 n (some es.length)) (.slice (some ⟨w.heap.size, 0, none⟩) n es.length) := by
  have hno := (hr.fresh h.length (Nat.le_refl _)).1
  refine ⟨C.with h.length ⟨w.heap.size, 0, esz, rs.size, e⟩, Ctx.with_le _ _ _, ?_, ?_⟩
  · refine hr.alloc _ rfl _ (fun _ _ => by simp) 0 esz rs.size e ⟨_, rfl, ?_⟩
    have := rowsRel_of (rest := #[]) (hrs.mono (Ctx.with_sub (C := C) (a := h.length) ⟨w.heap.size, 0, esz, rs.size, e⟩ hno)) ⟨w.heap.size, 0, esz, rs.size, e⟩ rfl rfl (by simp)
    simpa using this
  · have := VRel.slice (C := C.with h.length ⟨w.heap.size, 0, esz, rs.size, e⟩) h.length esz 0 n (some es.length) es.length _ (Ctx.with_self _ _ _) rfl (fun c hc => by cases hc; rfl) hn (by simp only [Nat.zero_add]; rw [hrs.size]; exact Nat.le_refl _)
    simpa using this
def ABuildS (h : AHeap) (zero : List AVal) (len : Nat) (parts : List (Nat × AVal)) (K : AVal → AHeap → Prop) : Prop :=
  len * zero.length ≤ 16777216 ∧ ASet zero.length (List.replicate len zero) parts fun es => K (.slice h.length zero.length 0 len (some len)) (h ++ [some (.rows es)])
theorem sound_buildS {P : Program} {C : Ctx} {h : AHeap} {w : World} (hr : HRel C h w) {t e : TypeId} {zero : List AVal} (ht : rowT P t = some (e, zero)) {len : Nat} {parts : List (Nat × AVal)} {rparts : Array (Nat × Value)} (hp : PartsRel C parts rparts.toList)
    {K : AVal → AHeap → Prop} (hk : ABuildS h zero len parts K) : Out P C h w (Instr.buildSlice t len rparts) K := by
  obtain ⟨hu, hz, i, hi, hb⟩ := rowT_ok ht
  obtain ⟨i', z, h1, h2, h3, h4⟩ := zeroT_ok hz
  rw [hi] at h1; cases h1
  obtain ⟨hbig, hk⟩ := hk
  have hzr := rows_zero (h4 C) len
  have hrow0 : (Array.range (len * i.size)).map (fun x => (if len * i.size = 0 then (#[] : Array Value) else z.cells)[x % (if len * i.size = 0 then (#[] : Array Value) else z.cells).size]!) = (Array.range (len * zero.length)).map (fun i => z.cells[i % z.cells.size]!) := by
    rw [h3]
    by_cases h0 : len * zero.length = 0
    · rw [h0]; simp
    · rw [if_neg h0]
  obtain ⟨out, rout, g1, g2, g3, g4⟩ := set_ok zero.length parts rparts.toList _ _ _ hp hzr hk
  rw [List.length_replicate] at g3
  obtain ⟨D, d1, d2, d3⟩ := sliceOf_new hr g2 e len (by omega)
  rw [g3] at d3
  refine ⟨_, _, D, _, _, ?_, d1, d2, d3, g4⟩
  have hs : ∀ w, (sizeOf e).run P w = .ok i.size w := fun w => by simp [sizeOf, typeInfo, hi]
  have hzv := fun w => run_zeroValue_of (P := P) hi h2 w
  unfold Instr.buildSlice
  simp only [Sem.run_bind, run_underlying hu, Result.andThen_ok, hs]
  rw [if_neg (by rw [h3]; omega)]
  (try simp only [Sem.run_bind, Sem.run_pure, Result.andThen_ok])
  by_cases h0 : len * i.size = 0
  · rw [if_pos h0]
    simp only [Sem.run_bind, Sem.run_pure, Result.andThen_ok]
    rw [if_pos h0] at hrow0
    rw [hrow0, ← h3] at *
    rw [h3, g1]
    simp [newRow]
  · rw [if_neg h0]
    simp only [Sem.run_bind, hzv, Sem.run_pure, Result.andThen_ok]
    rw [if_neg h0] at hrow0
    rw [hrow0, h3, g1]
    simp [newRow]
end Go.AL
