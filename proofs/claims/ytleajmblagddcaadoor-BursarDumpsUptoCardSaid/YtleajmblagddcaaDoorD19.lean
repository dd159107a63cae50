/- A reply: its data, its text; bursar.more. -/
import Derived.Test.YtleajmblagddcaaDoorD18
namespace Go.Proofs.YtleajmblagddcaaDoor
open Go.RowKit
set_option linter.unusedVariables false
set_option linter.unusedSimpArgs false

structure Ln where
  res : ByteArray
  hard : Int
  used : Int
def Ln.cells (l : Ln) : List Value := [.string l.res, .int .i64 l.hard, .int .i64 l.used]
def RdLn (w : World) (v : Value) (l : List Ln) : Prop := RdS Ln.cells 3 w v l ∧ ∀ x ∈ l, in64 x.hard ∧ in64 x.used
theorem RdLn.below {w w1 : World} {v : Value} {l : List Ln} (h : RdLn w v l) (hb : Below w.heap.size w w1) : RdLn w1 v l := ⟨h.1.below hb, h.2⟩
structure Ev where
  ver : Int
  kind : Int
  gone : Bool
  path : ByteArray
  name : ByteArray
def Ev.cells (e : Ev) : List Value := [.int .i64 e.ver, .int .i64 e.kind, .bool e.gone, .string e.path, .string e.name]
def RdEv (w : World) (v : Value) (l : List Ev) : Prop := RdS Ev.cells 5 w v l ∧ ∀ x ∈ l, in64 x.ver ∧ in64 x.kind
theorem RdEv.below {w w1 : World} {v : Value} {l : List Ev} (h : RdEv w v l) (hb : Below w.heap.size w w1) : RdEv w1 v l := ⟨h.1.below hb, h.2⟩
def nmCells (s : ByteArray) : List Value := [.string s]
def RdNm (w : World) (v : Value) (l : List ByteArray) : Prop := RdS nmCells 1 w v l
theorem RdNm.below {w w1 : World} {v : Value} {l : List ByteArray} (h : RdNm w v l) (hb : Below w.heap.size w w1) : RdNm w1 v l := RdS.below h hb
theorem Ln.at {w : World} {v : Value} {l : List Ln} (h : RdLn w v l) (i : Nat) (hi : i < l.length) : ∃ b off c, v = .slice (some ⟨b, off, none⟩) l.length c ∧ l.length ≤ c ∧ b < w.heap.size ∧ w.cell? ⟨b, off + i * 3, none⟩ = some (.string l[i].res) ∧ w.cell? ⟨b, off + i * 3 + 1, none⟩ = some (.int .i64 l[i].hard) ∧ w.cell? ⟨b, off + i * 3 + 2, none⟩ = some (.int .i64 l[i].used) := by
  obtain ⟨b, off, c, hv, hc, hb, hcell⟩ := RdS.cells (f := Ln.cells) (size := 3) (fun _ => rfl) (by decide) (h.1) i hi
  exact ⟨b, off, c, hv, hc, hb, hcell 0 _ (by decide) rfl, hcell 1 _ (by decide) rfl, hcell 2 _ (by decide) rfl⟩
theorem Ev.at {w : World} {v : Value} {l : List Ev} (h : RdEv w v l) (i : Nat) (hi : i < l.length) : ∃ b off c, v = .slice (some ⟨b, off, none⟩) l.length c ∧ l.length ≤ c ∧ b < w.heap.size ∧ w.cell? ⟨b, off + i * 5, none⟩ = some (.int .i64 l[i].ver) ∧ w.cell? ⟨b, off + i * 5 + 1, none⟩ = some (.int .i64 l[i].kind) ∧ w.cell? ⟨b, off + i * 5 + 2, none⟩ = some (.bool l[i].gone) ∧ w.cell? ⟨b, off + i * 5 + 3, none⟩ = some (.string l[i].path) ∧ w.cell? ⟨b, off + i * 5 + 4, none⟩ = some (.string l[i].name) := by
  obtain ⟨b, off, c, hv, hc, hb, hcell⟩ := RdS.cells (f := Ev.cells) (size := 5) (fun _ => rfl) (by decide) (h.1) i hi
  exact ⟨b, off, c, hv, hc, hb, hcell 0 _ (by decide) rfl, hcell 1 _ (by decide) rfl, hcell 2 _ (by decide) rfl, hcell 3 _ (by decide) rfl, hcell 4 _ (by decide) rfl⟩
theorem nm_at {w : World} {v : Value} {l : List ByteArray} (h : RdNm w v l) (i : Nat) (hi : i < l.length) : ∃ b off c, v = .slice (some ⟨b, off, none⟩) l.length c ∧ l.length ≤ c ∧ b < w.heap.size ∧ w.cell? ⟨b, off + i, none⟩ = some (.string l[i]) := by
  obtain ⟨b, off, c, hv, hc, hb, hcell⟩ := RdS.cells (f := nmCells) (size := 1) (fun _ => rfl) (by decide) h i hi
  refine ⟨b, off, c, hv, hc, hb, ?_⟩
  have := hcell 0 _ (by decide) rfl
  rw [Nat.mul_one] at this
  exact this

structure Re where
  code : Int
  ver : Int
  more : Bool
  dp : ByteArray
  dn : ByteArray
  da : ByteArray
  dr : ByteArray
  obv : Value
  obl : List Ob
  lnv : Value
  lnl : List Ln
  evv : Value
  evl : List Ev
  nmv : Value
  nml : List ByteArray
  s0 : Int
  s1 : Int
  s2 : Int
  s3 : Int
  s4 : Int
  s5 : Int
structure ReOk (w : World) (r : Re) : Prop where
  code : in64 r.code
  ver : in64 r.ver
  ob : RdOb w r.obv r.obl
  ln : RdLn w r.lnv r.lnl
  ev : RdEv w r.evv r.evl
  nm : RdNm w r.nmv r.nml
  s0 : in64 r.s0
  s1 : in64 r.s1
  s2 : in64 r.s2
  s3 : in64 r.s3
  s4 : in64 r.s4
  s5 : in64 r.s5
theorem ReOk.below {w w1 : World} {r : Re} (h : ReOk w r) (hb : Below w.heap.size w w1) : ReOk w1 r :=
  ⟨h.code, h.ver, h.ob.below hb, h.ln.below hb, h.ev.below hb, h.nm.below hb, h.s0, h.s1, h.s2, h.s3, h.s4, h.s5⟩
abbrev reAgg (r : Re) : Value := .agg #[.int .i64 r.code, .int .i64 r.ver, .bool r.more, .string r.dp, .string r.dn, .string r.da, .string r.dr, r.obv, r.lnv, r.evv, r.nmv, .int .i64 r.s0, .int .i64 r.s1, .int .i64 r.s2, .int .i64 r.s3, .int .i64 r.s4, .int .i64 r.s5]
abbrev reBox (r : Re) : Obj := .cells #[.int .i64 r.code, .int .i64 r.ver, .bool r.more, .string r.dp, .string r.dn, .string r.da, .string r.dr, r.obv, r.lnv, r.evv, r.nmv, .int .i64 r.s0, .int .i64 r.s1, .int .i64 r.s2, .int .i64 r.s3, .int .i64 r.s4, .int .i64 r.s5] 32

def pzB (n : Int) : ByteArray := ⟨(printedZ n).toArray⟩
def Ln.parts (l : Ln) : List Pt := [.str l.res, .str (pzB l.hard), .str (pzB l.used)]
def Ln.txt (l : Ln) : List UInt8 := tellS [108, 105, 110, 101] l.parts
def Ev.parts (e : Ev) : List Pt := [.i64 e.ver, .int e.kind, .bool e.gone, .str e.path, .str e.name]
def Ev.txt (e : Ev) : List UInt8 := tellS [101, 118, 101, 110, 116] e.parts
def nmTxt (s : ByteArray) : List UInt8 := tellS [110, 97, 109, 101] [.str s]
def moreS (b : Bool) : List UInt8 := if b then [109, 111, 114, 101, 10] else []
def Re.noParts (r : Re) : List Pt := [.err r.code, .i64 r.ver, .str r.dp, .str r.dn, .str r.da, .str r.dr]
def Re.stParts (r : Re) : List Pt := [.i64 r.s0, .i64 r.s1, .i64 r.s2, .int r.s3, .int r.s4, .int r.s5]
def Re.okS (r : Re) : List UInt8 := tellS [111, 107] [.i64 r.ver]
def Re.rest (r : Re) (op : Int) : List UInt8 :=
  if op = 10 then obsS r.obl ++ (r.nml.flatMap nmTxt ++ moreS r.more)
  else if op = 7 ∨ op = 8 ∨ op = 9 ∨ op = 16 then obsS r.obl
  else if op = 11 then obsS r.obl ++ moreS r.more
  else if op = 12 then r.lnl.flatMap Ln.txt
  else if op = 13 then r.evl.flatMap Ev.txt
  else if op = 19 then tellS [115, 116, 97, 116] r.stParts
  else []
def Re.txt (r : Re) (op : Int) : List UInt8 := if r.code = 0 then r.okS ++ r.rest op else tellS [110, 111] r.noParts

/-! ### a box and a builder behind it -/
def GB (w : World) (bx : Obj) (w1 : World) (s1 : Value) (bs : List UInt8) : Prop := BOut ((w.alloc bx).alloc bldBox) (w.heap.size + 1) (.slice none 0 0) w1 s1 bs
theorem gb_old {w : World} {bx : Obj} : Below w.heap.size w ((w.alloc bx).alloc bldBox) := ((Below.refl _ _).alloc (Nat.le_refl _) _).alloc (by simp) _
theorem GB.start (w : World) (bx : Obj) : GB w bx ((w.alloc bx).alloc bldBox) (.slice none 0 0) [] := by
  have := IsB.fresh (w.alloc bx)
  simp at this
  exact BOut.refl this
theorem GB.S {w w1 : World} {bx : Obj} {s1 : Value} {bs : List UInt8} (h : GB w bx w1 s1 bs) : ∀ k, BS (w.heap.size + 1) s1 k → w.heap.size + 1 ≤ k := (h.keep ob_S (by simp)).1
theorem GB.S0 {w w1 : World} {bx : Obj} {s1 : Value} {bs : List UInt8} (h : GB w bx w1 s1 bs) : ∀ k, BS (w.heap.size + 1) s1 k → w.heap.size ≤ k := fun k hk => by have := h.S k hk; omega
theorem GB.base {w w1 : World} {bx : Obj} {s1 : Value} {bs : List UInt8} (h : GB w bx w1 s1 bs) : Below w.heap.size w w1 :=
  gb_old.trans ((h.keep ob_S (by simp)).2.mono (by simp))
theorem GB.box {w w1 : World} {bx : Obj} {s1 : Value} {bs : List UInt8} (h : GB w bx w1 s1 bs) : w1.heap[w.heap.size]? = some bx := by
  refine h.step.fr.blk (blk_alloc (blk_new w _) _) ?_
  intro hk; have := ob_S _ hk; omega
theorem GB.lt {w w1 : World} {bx : Obj} {s1 : Value} {bs : List UInt8} (h : GB w bx w1 s1 bs) : w.heap.size + 1 < w1.heap.size := BS_lt h.is _ (.inl rfl)
theorem GB.below {w w1 w2 : World} {bx : Obj} {s1 : Value} {bs : List UInt8} (h : GB w bx w1 s1 bs) (hb : Below w1.heap.size w1 w2) : GB w bx w2 s1 bs := BOut.below h hb
theorem GB.alloc {w w1 : World} {bx : Obj} {s1 : Value} {bs : List UInt8} (h : GB w bx w1 s1 bs) (o : Obj) : GB w bx (w1.alloc o) s1 bs := BOut.below h ((Below.refl _ _).alloc (Nat.le_refl _) _)
theorem GB.trans {w w1 w2 : World} {bx : Obj} {s1 s2 : Value} {bs b2 : List UInt8} (h : GB w bx w1 s1 bs) (k : BOut w1 (w.heap.size + 1) s1 w2 s2 b2) : GB w bx w2 s2 b2 := BOut.trans h k

set_option maxRecDepth 100000 in
set_option maxHeartbeats 1600000 in
theorem more_calls (r : Re) (w : World) (g : Nat) (sv : Value) (bs : List UInt8) (hIs : IsB w g sv bs) (hlen : bs.length ≤ 1099511627776) :
    Calls Tryd.prog 18 #[.pointer (some ⟨g, 0, none⟩), reAgg r] w fun e w' => e = .returned (.tuple #[]) ∧ ∃ s', BOut w g sv w' s' (bs ++ moreS r.more) := by
  obtain ⟨code, ver, more, dp, dn, da, dr, obv, obl, lnv, lnl, evv, evl, nmv, nml, s0, s1, s2, s3, s4, s5⟩ := r
  have HIs := Lib.hid (hIs.below ((Below.refl _ _).alloc (Nat.le_refl _) (.cells #[.int .i64 code, .int .i64 ver, .bool more, .string dp, .string dn, .string da, .string dr, obv, lnv, evv, nmv, .int .i64 s0, .int .i64 s1, .int .i64 s2, .int .i64 s3, .int .i64 s4, .int .i64 s5] 32)))
  have HI0 := Lib.hid (BOut.refl hIs)
  clear hIs
  have hl5 : bs.length + (ByteArray.mk #[109, 111, 114, 101, 10]).size ≤ 140737488355328 := by
    have : (ByteArray.mk #[109, 111, 114, 101, 10]).size = 5 := rfl
    omega
  have Hl5 := Lib.hid hl5
  clear hl5
  cases more with
  | true =>
    go_enter Tryd.func18, Tryd.ntmps18
    go_wp2_with fail
    refine (writeString_calls g sv bs _ _ HIs.out Hl5.out).mono ?_
    rintro e w2 ⟨⟨_, rfl⟩, s2, h2⟩
    have H2 := Lib.hid ((HI0.out.below ((Below.refl _ _).alloc (Nat.le_refl _) _)).trans h2)
    clear h2
    go_wp2
    go_end0
    exact ⟨rfl, s2, H2.out⟩
  | false =>
    go_enter Tryd.func18, Tryd.ntmps18
    go_wp2
    go_end0
    exact ⟨rfl, sv, by simpa [moreS] using HI0.out.below ((Below.refl _ _).alloc (Nat.le_refl _) _)⟩
end Go.Proofs.YtleajmblagddcaaDoor
