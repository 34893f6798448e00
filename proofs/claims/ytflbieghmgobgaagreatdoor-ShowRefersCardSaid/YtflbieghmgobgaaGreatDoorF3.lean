/- Data that comes in, as Lean structures. All contracts of this seat as one table; shows that come in. The laws that compare with the reference. The plain laws of shows. The laws that stand by themselve .. -/
import Derived.Test.YtflbieghmgobgaaGreatDoorFShbAC
import Derived.Test.YtflbieghmgobgaaGreatDoorF1
import Derived.Test.YtflbieghmgobgaaGreatDoorF2
import Derived.Test.YtflbieghmgobgaaGreatDoorFShbYB
import Derived.Test.YtflbieghmgobgaaGreatDoorProg
import Derived.KernelRfl
import Derived.Shelf.Small.Utf8
import Derived.Shelf.Small.Bits
import Derived.Shelf.Small.Strs
import Derived.Shelf.Strconv.Atoi
import Derived.Shelf.Strconv.Itoa0
import Derived.Shelf.Strconv.AtoiErrFast
import Derived.Shelf.Strconv.ParseIntEmpty
import Derived.Shelf.Strconv.AtoiFail
import Derived.Shelf.LaysM
import Derived.Shelf.Strconv.Clone
import Derived.Shelf.Strconv.SyntaxError
import Derived.Shelf.LaysC
import Derived.Shelf.Strconv.ToError
import Derived.Shelf.Strconv.Lower
import Derived.Shelf.Strconv.ParseUint10
import Derived.Shelf.Strconv.ParseUint10Empty
import Derived.Shelf.Strconv.ParseUint10Any
import Derived.Shelf.Strconv.ParseInt10
import Derived.Shelf.Strconv.AtoiLong
import Derived.Shelf.Strconv.AtoiInnerAll
import Derived.Shelf.Strconv.RangeError
import Derived.Shelf.Strconv.ToErrorRange
import Derived.Shelf.Strconv.AtoiAll
import Derived.Shelf.Strings.Search1
import Derived.Shelf.Strings.Search2
import Derived.Shelf.Strings.Cut
import Derived.Shelf.Strings.Shaped
import Derived.Shelf.GgClosure.StringsIndexFunc
import Derived.Ground.GgwProg
import Derived.Shelf.GgClosure.StringsIndexFuncTop
import Derived.Shelf.Strings.Runes
import Derived.Shelf.Strings.AsciiSet
import Derived.Shelf.Unicode.DecodeSlow
import Derived.Shelf.SlGeneric
import Derived.Ground.SlsfProg
import Derived.Shelf.SlSortCmp.NoneTotal
import Derived.Test.YtflbieghmgobgaaGreatDoorFShbXE
import Derived.Lib.AtoiAllCases
import Derived.Laws.RangeAny
import Derived.Test.YtflbieghmgobgaaGreatDoorCards
import Derived.SizedLaws
import Derived.WalkKit
import Derived.ProofKit
import Derived.OpenShut
import Derived.ChangeMaps5
import Derived.LaidLaws
import Derived.LaidHandle
import Derived.Lay
import Derived.SevenTiedAt
set_option linter.unusedSimpArgs false
set_option linter.unusedVariables false
namespace Go.Proofs.YtflbieghmgobgaaGreatDoor
open Go.Sha
def Pt.sh : List CSh := [.int .i64, .int .i64]
structure Pt.Dk (z : Pt) : Prop where
 x : -9223372036854775808 ≤ z.x ∧ z.x ≤ 9223372036854775807
 y : -9223372036854775808 ≤ z.y ∧ z.y ≤ 9223372036854775807
theorem Pt.rd {vs : List V} (h : OkCs Pt.sh vs) : ∃ x : Pt, V.agg vs = x.v ∧ x.Dk := by
 obtain ⟨v0, r0, rfl, h0, t0⟩ := h.cons_inv
 obtain ⟨v1, r1, rfl, h1, t1⟩ := t0.cons_inv
 obtain rfl := t1.nil_inv
 obtain ⟨y0, rfl, b0⟩ := h0.i64_inv
 obtain ⟨y1, rfl, b1⟩ := h1.i64_inv
 exact ⟨⟨y0, y1⟩, rfl, ⟨b0, b1⟩⟩
def Slt.sh : List CSh := [.str, .int .i64, .int .i64]
structure Slt.Dk (z : Slt) : Prop where
 name : z.name.length ≤ 140737488351232
 fr : -9223372036854775808 ≤ z.fr ∧ z.fr ≤ 9223372036854775807
 to_ : -9223372036854775808 ≤ z.to_ ∧ z.to_ ≤ 9223372036854775807
theorem Slt.rd {vs : List V} (h : OkCs Slt.sh vs) : ∃ x : Slt, V.agg vs = x.v ∧ x.Dk := by
 obtain ⟨v0, r0, rfl, h0, t0⟩ := h.cons_inv
 obtain ⟨v1, r1, rfl, h1, t1⟩ := t0.cons_inv
 obtain ⟨v2, r2, rfl, h2, t2⟩ := t1.cons_inv
 obtain rfl := t2.nil_inv
 obtain ⟨y0, rfl, b0⟩ := h0.str_inv
 obtain ⟨y1, rfl, b1⟩ := h1.i64_inv
 obtain ⟨y2, rfl, b2⟩ := h2.i64_inv
 exact ⟨⟨y0, y1, y2⟩, rfl, ⟨b0, b1, b2⟩⟩
def Ftr.sh : List CSh := [.int .i64, .int .i64, .int .i64, .int .i64, .int .i64, .int .i64, .int .i64, .int .i64, .bool, .sl true 32 Slt.sh]
structure Ftr.Dk (z : Ftr) : Prop where
 attr : -9223372036854775808 ≤ z.attr ∧ z.attr ≤ 9223372036854775807
 bits : -9223372036854775808 ≤ z.bits ∧ z.bits ≤ 9223372036854775807
 coarse : -9223372036854775808 ≤ z.coarse ∧ z.coarse ≤ 9223372036854775807
 fine : -9223372036854775808 ≤ z.fine ∧ z.fine ≤ 9223372036854775807
 curve : -9223372036854775808 ≤ z.curve ∧ z.curve ≤ 9223372036854775807
 home : -9223372036854775808 ≤ z.home ∧ z.home ≤ 9223372036854775807
 low : -9223372036854775808 ≤ z.low ∧ z.low ≤ 9223372036854775807
 high : -9223372036854775808 ≤ z.high ∧ z.high ≤ 9223372036854775807
 snap : True
 wheel : z.wheel.length ≤ 140737488351232 ∧ ∀ q ∈ z.wheel, q.Dk
theorem Ftr.rd {vs : List V} (h : OkCs Ftr.sh vs) : ∃ x : Ftr, V.agg vs = x.v ∧ x.Dk := by
 obtain ⟨v0, r0, rfl, h0, t0⟩ := h.cons_inv
 obtain ⟨v1, r1, rfl, h1, t1⟩ := t0.cons_inv
 obtain ⟨v2, r2, rfl, h2, t2⟩ := t1.cons_inv
 obtain ⟨v3, r3, rfl, h3, t3⟩ := t2.cons_inv
 obtain ⟨v4, r4, rfl, h4, t4⟩ := t3.cons_inv
 obtain ⟨v5, r5, rfl, h5, t5⟩ := t4.cons_inv
 obtain ⟨v6, r6, rfl, h6, t6⟩ := t5.cons_inv
 obtain ⟨v7, r7, rfl, h7, t7⟩ := t6.cons_inv
 obtain ⟨v8, r8, rfl, h8, t8⟩ := t7.cons_inv
 obtain ⟨v9, r9, rfl, h9, t9⟩ := t8.cons_inv
 obtain rfl := t9.nil_inv
 obtain ⟨y0, rfl, b0⟩ := h0.i64_inv
 obtain ⟨y1, rfl, b1⟩ := h1.i64_inv
 obtain ⟨y2, rfl, b2⟩ := h2.i64_inv
 obtain ⟨y3, rfl, b3⟩ := h3.i64_inv
 obtain ⟨y4, rfl, b4⟩ := h4.i64_inv
 obtain ⟨y5, rfl, b5⟩ := h5.i64_inv
 obtain ⟨y6, rfl, b6⟩ := h6.i64_inv
 obtain ⟨y7, rfl, b7⟩ := h7.i64_inv
 obtain ⟨y8, rfl⟩ := h8.bool_inv
 have b8 := trivial
 obtain ⟨y9, rfl, b9⟩ := h9.agg_inv (f := Slt.v) (by decide) (fun _ => Slt.rd)
 exact ⟨⟨y0, y1, y2, y3, y4, y5, y6, y7, y8, y9⟩, rfl, ⟨b0, b1, b2, b3, b4, b5, b6, b7, b8, b9⟩⟩
def Prof.sh : List CSh := [.str, .int .i64, .int .i64, .sl true 96 Ftr.sh]
structure Prof.Dk (z : Prof) : Prop where
 name : z.name.length ≤ 140737488351232
 foot : -9223372036854775808 ≤ z.foot ∧ z.foot ≤ 9223372036854775807
 watts : -9223372036854775808 ≤ z.watts ∧ z.watts ≤ 9223372036854775807
 feats : z.feats.length ≤ 140737488351232 ∧ ∀ q ∈ z.feats, q.Dk
theorem Prof.rd {vs : List V} (h : OkCs Prof.sh vs) : ∃ x : Prof, V.agg vs = x.v ∧ x.Dk := by
 obtain ⟨v0, r0, rfl, h0, t0⟩ := h.cons_inv
 obtain ⟨v1, r1, rfl, h1, t1⟩ := t0.cons_inv
 obtain ⟨v2, r2, rfl, h2, t2⟩ := t1.cons_inv
 obtain ⟨v3, r3, rfl, h3, t3⟩ := t2.cons_inv
 obtain rfl := t3.nil_inv
 obtain ⟨y0, rfl, b0⟩ := h0.str_inv
 obtain ⟨y1, rfl, b1⟩ := h1.i64_inv
 obtain ⟨y2, rfl, b2⟩ := h2.i64_inv
 obtain ⟨y3, rfl, b3⟩ := h3.agg_inv (f := Ftr.v) (by decide) (fun _ => Ftr.rd)
 exact ⟨⟨y0, y1, y2, y3⟩, rfl, ⟨b0, b1, b2, b3⟩⟩
def Fixt.sh : List CSh := [.int .i64, .int .i64, .str, .int .i64, .int .i64, .int .i64, .str]
structure Fixt.Dk (z : Fixt) : Prop where
 chan : -9223372036854775808 ≤ z.chan ∧ z.chan ≤ 9223372036854775807
 part : -9223372036854775808 ≤ z.part ∧ z.part ≤ 9223372036854775807
 prof : z.prof.length ≤ 140737488351232
 univ : -9223372036854775808 ≤ z.univ ∧ z.univ ≤ 9223372036854775807
 addr : -9223372036854775808 ≤ z.addr ∧ z.addr ≤ 9223372036854775807
 phase : -9223372036854775808 ≤ z.phase ∧ z.phase ≤ 9223372036854775807
 cable : z.cable.length ≤ 140737488351232
theorem Fixt.rd {vs : List V} (h : OkCs Fixt.sh vs) : ∃ x : Fixt, V.agg vs = x.v ∧ x.Dk := by
 obtain ⟨v0, r0, rfl, h0, t0⟩ := h.cons_inv
 obtain ⟨v1, r1, rfl, h1, t1⟩ := t0.cons_inv
 obtain ⟨v2, r2, rfl, h2, t2⟩ := t1.cons_inv
 obtain ⟨v3, r3, rfl, h3, t3⟩ := t2.cons_inv
 obtain ⟨v4, r4, rfl, h4, t4⟩ := t3.cons_inv
 obtain ⟨v5, r5, rfl, h5, t5⟩ := t4.cons_inv
 obtain ⟨v6, r6, rfl, h6, t6⟩ := t5.cons_inv
 obtain rfl := t6.nil_inv
 obtain ⟨y0, rfl, b0⟩ := h0.i64_inv
 obtain ⟨y1, rfl, b1⟩ := h1.i64_inv
 obtain ⟨y2, rfl, b2⟩ := h2.str_inv
 obtain ⟨y3, rfl, b3⟩ := h3.i64_inv
 obtain ⟨y4, rfl, b4⟩ := h4.i64_inv
 obtain ⟨y5, rfl, b5⟩ := h5.i64_inv
 obtain ⟨y6, rfl, b6⟩ := h6.str_inv
 exact ⟨⟨y0, y1, y2, y3, y4, y5, y6⟩, rfl, ⟨b0, b1, b2, b3, b4, b5, b6⟩⟩
def Prm.sh : List CSh := [.int .i64, .int .i64]
structure Prm.Dk (z : Prm) : Prop where
 chan : -9223372036854775808 ≤ z.chan ∧ z.chan ≤ 9223372036854775807
 attr : -9223372036854775808 ≤ z.attr ∧ z.attr ≤ 9223372036854775807
theorem Prm.rd {vs : List V} (h : OkCs Prm.sh vs) : ∃ x : Prm, V.agg vs = x.v ∧ x.Dk := by
 obtain ⟨v0, r0, rfl, h0, t0⟩ := h.cons_inv
 obtain ⟨v1, r1, rfl, h1, t1⟩ := t0.cons_inv
 obtain rfl := t1.nil_inv
 obtain ⟨y0, rfl, b0⟩ := h0.i64_inv
 obtain ⟨y1, rfl, b1⟩ := h1.i64_inv
 exact ⟨⟨y0, y1⟩, rfl, ⟨b0, b1⟩⟩
def Val.sh : List CSh := [.int .i64, .int .i64]
structure Val.Dk (z : Val) : Prop where
 pal : -9223372036854775808 ≤ z.pal ∧ z.pal ≤ 9223372036854775807
 lev : -9223372036854775808 ≤ z.lev ∧ z.lev ≤ 9223372036854775807
theorem Val.rd {vs : List V} (h : OkCs Val.sh vs) : ∃ x : Val, V.agg vs = x.v ∧ x.Dk := by
 obtain ⟨v0, r0, rfl, h0, t0⟩ := h.cons_inv
 obtain ⟨v1, r1, rfl, h1, t1⟩ := t0.cons_inv
 obtain rfl := t1.nil_inv
 obtain ⟨y0, rfl, b0⟩ := h0.i64_inv
 obtain ⟨y1, rfl, b1⟩ := h1.i64_inv
 exact ⟨⟨y0, y1⟩, rfl, ⟨b0, b1⟩⟩
def Grp.sh : List CSh := [.int .i64, .sl false 8 [.int .i64]]
structure Grp.Dk (z : Grp) : Prop where
 num : -9223372036854775808 ≤ z.num ∧ z.num ≤ 9223372036854775807
 chans : z.chans.length ≤ 140737488351232 ∧ ∀ q ∈ z.chans, -9223372036854775808 ≤ q ∧ q ≤ 9223372036854775807
theorem Grp.rd {vs : List V} (h : OkCs Grp.sh vs) : ∃ x : Grp, V.agg vs = x.v ∧ x.Dk := by
 obtain ⟨v0, r0, rfl, h0, t0⟩ := h.cons_inv
 obtain ⟨v1, r1, rfl, h1, t1⟩ := t0.cons_inv
 obtain rfl := t1.nil_inv
 obtain ⟨y0, rfl, b0⟩ := h0.i64_inv
 obtain ⟨y1, rfl, b1⟩ := h1.one_inv (f := V.int .i64) (by decide) (fun v h => h.i64_inv)
 exact ⟨⟨y0, y1⟩, rfl, ⟨b0, b1⟩⟩
def Hue.sh : List CSh := [.int .i64, .int .i64, .int .i64]
structure Hue.Dk (z : Hue) : Prop where
 chan : -9223372036854775808 ≤ z.chan ∧ z.chan ≤ 9223372036854775807
 attr : -9223372036854775808 ≤ z.attr ∧ z.attr ≤ 9223372036854775807
 lev : -9223372036854775808 ≤ z.lev ∧ z.lev ≤ 9223372036854775807
theorem Hue.rd {vs : List V} (h : OkCs Hue.sh vs) : ∃ x : Hue, V.agg vs = x.v ∧ x.Dk := by
 obtain ⟨v0, r0, rfl, h0, t0⟩ := h.cons_inv
 obtain ⟨v1, r1, rfl, h1, t1⟩ := t0.cons_inv
 obtain ⟨v2, r2, rfl, h2, t2⟩ := t1.cons_inv
 obtain rfl := t2.nil_inv
 obtain ⟨y0, rfl, b0⟩ := h0.i64_inv
 obtain ⟨y1, rfl, b1⟩ := h1.i64_inv
 obtain ⟨y2, rfl, b2⟩ := h2.i64_inv
 exact ⟨⟨y0, y1, y2⟩, rfl, ⟨b0, b1, b2⟩⟩
def Pal.sh : List CSh := [.int .i64, .sl true 24 Hue.sh]
structure Pal.Dk (z : Pal) : Prop where
 num : -9223372036854775808 ≤ z.num ∧ z.num ≤ 9223372036854775807
 hues : z.hues.length ≤ 140737488351232 ∧ ∀ q ∈ z.hues, q.Dk
theorem Pal.rd {vs : List V} (h : OkCs Pal.sh vs) : ∃ x : Pal, V.agg vs = x.v ∧ x.Dk := by
 obtain ⟨v0, r0, rfl, h0, t0⟩ := h.cons_inv
 obtain ⟨v1, r1, rfl, h1, t1⟩ := t0.cons_inv
 obtain rfl := t1.nil_inv
 obtain ⟨y0, rfl, b0⟩ := h0.i64_inv
 obtain ⟨y1, rfl, b1⟩ := h1.agg_inv (f := Hue.v) (by decide) (fun _ => Hue.rd)
 exact ⟨⟨y0, y1⟩, rfl, ⟨b0, b1⟩⟩
def Tim.sh : List CSh := [.int .i64, .int .i64, .int .i64, .int .i64, .int .i64, .int .i64]
structure Tim.Dk (z : Tim) : Prop where
 up : -9223372036854775808 ≤ z.up ∧ z.up ≤ 9223372036854775807
 down : -9223372036854775808 ≤ z.down ∧ z.down ≤ 9223372036854775807
 posi : -9223372036854775808 ≤ z.posi ∧ z.posi ≤ 9223372036854775807
 colour : -9223372036854775808 ≤ z.colour ∧ z.colour ≤ 9223372036854775807
 beam : -9223372036854775808 ≤ z.beam ∧ z.beam ≤ 9223372036854775807
 delay : -9223372036854775808 ≤ z.delay ∧ z.delay ≤ 9223372036854775807
theorem Tim.rd {vs : List V} (h : OkCs Tim.sh vs) : ∃ x : Tim, V.agg vs = x.v ∧ x.Dk := by
 obtain ⟨v0, r0, rfl, h0, t0⟩ := h.cons_inv
 obtain ⟨v1, r1, rfl, h1, t1⟩ := t0.cons_inv
 obtain ⟨v2, r2, rfl, h2, t2⟩ := t1.cons_inv
 obtain ⟨v3, r3, rfl, h3, t3⟩ := t2.cons_inv
 obtain ⟨v4, r4, rfl, h4, t4⟩ := t3.cons_inv
 obtain ⟨v5, r5, rfl, h5, t5⟩ := t4.cons_inv
 obtain rfl := t5.nil_inv
 obtain ⟨y0, rfl, b0⟩ := h0.i64_inv
 obtain ⟨y1, rfl, b1⟩ := h1.i64_inv
 obtain ⟨y2, rfl, b2⟩ := h2.i64_inv
 obtain ⟨y3, rfl, b3⟩ := h3.i64_inv
 obtain ⟨y4, rfl, b4⟩ := h4.i64_inv
 obtain ⟨y5, rfl, b5⟩ := h5.i64_inv
 exact ⟨⟨y0, y1, y2, y3, y4, y5⟩, rfl, ⟨b0, b1, b2, b3, b4, b5⟩⟩
def Mov.sh : List CSh := [.int .i64, .int .i64, .int .i64, .int .i64, .int .i64]
structure Mov.Dk (z : Mov) : Prop where
 prm : z.prm.Dk
 val : z.val.Dk
 part : -9223372036854775808 ≤ z.part ∧ z.part ≤ 9223372036854775807
theorem Mov.rd {vs : List V} (h : OkCs Mov.sh vs) : ∃ x : Mov, V.agg vs = x.v ∧ x.Dk := by
 obtain ⟨v0, r0, rfl, h0, t0⟩ := h.cons_inv
 obtain ⟨v1, r1, rfl, h1, t1⟩ := t0.cons_inv
 obtain ⟨v2, r2, rfl, h2, t2⟩ := t1.cons_inv
 obtain ⟨v3, r3, rfl, h3, t3⟩ := t2.cons_inv
 obtain ⟨v4, r4, rfl, h4, t4⟩ := t3.cons_inv
 obtain rfl := t4.nil_inv
 obtain ⟨y0, rfl, b0⟩ := h0.i64_inv
 obtain ⟨y1, rfl, b1⟩ := h1.i64_inv
 obtain ⟨y2, rfl, b2⟩ := h2.i64_inv
 obtain ⟨y3, rfl, b3⟩ := h3.i64_inv
 obtain ⟨y4, rfl, b4⟩ := h4.i64_inv
 exact ⟨⟨⟨y0, y1⟩, ⟨y2, y3⟩, y4⟩, rfl, ⟨⟨b0, b1⟩, ⟨b2, b3⟩, b4⟩⟩
def Cu.sh : List CSh := [.str, .str, .sl true 40 Mov.sh, .sl true 48 Tim.sh, .bool, .bool, .int .i64, .str, .int .i64]
structure Cu.Dk (z : Cu) : Prop where
 num : z.num.length ≤ 140737488351232
 label : z.label.length ≤ 140737488351232
 moves : z.moves.length ≤ 140737488351232 ∧ ∀ q ∈ z.moves, q.Dk
 parts : z.parts.length ≤ 140737488351232 ∧ ∀ q ∈ z.parts, q.Dk
 block : True
 mark : True
 follow : -9223372036854775808 ≤ z.follow ∧ z.follow ≤ 9223372036854775807
 link : z.link.length ≤ 140737488351232
 loops : -9223372036854775808 ≤ z.loops ∧ z.loops ≤ 9223372036854775807
theorem Cu.rd {vs : List V} (h : OkCs Cu.sh vs) : ∃ x : Cu, V.agg vs = x.v ∧ x.Dk := by
 obtain ⟨v0, r0, rfl, h0, t0⟩ := h.cons_inv
 obtain ⟨v1, r1, rfl, h1, t1⟩ := t0.cons_inv
 obtain ⟨v2, r2, rfl, h2, t2⟩ := t1.cons_inv
 obtain ⟨v3, r3, rfl, h3, t3⟩ := t2.cons_inv
 obtain ⟨v4, r4, rfl, h4, t4⟩ := t3.cons_inv
 obtain ⟨v5, r5, rfl, h5, t5⟩ := t4.cons_inv
 obtain ⟨v6, r6, rfl, h6, t6⟩ := t5.cons_inv
 obtain ⟨v7, r7, rfl, h7, t7⟩ := t6.cons_inv
 obtain ⟨v8, r8, rfl, h8, t8⟩ := t7.cons_inv
 obtain rfl := t8.nil_inv
 obtain ⟨y0, rfl, b0⟩ := h0.str_inv
 obtain ⟨y1, rfl, b1⟩ := h1.str_inv
 obtain ⟨y2, rfl, b2⟩ := h2.agg_inv (f := Mov.v) (by decide) (fun _ => Mov.rd)
 obtain ⟨y3, rfl, b3⟩ := h3.agg_inv (f := Tim.v) (by decide) (fun _ => Tim.rd)
 obtain ⟨y4, rfl⟩ := h4.bool_inv
 have b4 := trivial
 obtain ⟨y5, rfl⟩ := h5.bool_inv
 have b5 := trivial
 obtain ⟨y6, rfl, b6⟩ := h6.i64_inv
 obtain ⟨y7, rfl, b7⟩ := h7.str_inv
 obtain ⟨y8, rfl, b8⟩ := h8.i64_inv
 exact ⟨⟨y0, y1, y2, y3, y4, y5, y6, y7, y8⟩, rfl, ⟨b0, b1, b2, b3, b4, b5, b6, b7, b8⟩⟩
def Lst.sh : List CSh := [.int .i64, .int .i64, .sl true 120 Cu.sh]
structure Lst.Dk (z : Lst) : Prop where
 num : -9223372036854775808 ≤ z.num ∧ z.num ≤ 9223372036854775807
 prio : -9223372036854775808 ≤ z.prio ∧ z.prio ≤ 9223372036854775807
 cues : z.cues.length ≤ 140737488351232 ∧ ∀ q ∈ z.cues, q.Dk
theorem Lst.rd {vs : List V} (h : OkCs Lst.sh vs) : ∃ x : Lst, V.agg vs = x.v ∧ x.Dk := by
 obtain ⟨v0, r0, rfl, h0, t0⟩ := h.cons_inv
 obtain ⟨v1, r1, rfl, h1, t1⟩ := t0.cons_inv
 obtain ⟨v2, r2, rfl, h2, t2⟩ := t1.cons_inv
 obtain rfl := t2.nil_inv
 obtain ⟨y0, rfl, b0⟩ := h0.i64_inv
 obtain ⟨y1, rfl, b1⟩ := h1.i64_inv
 obtain ⟨y2, rfl, b2⟩ := h2.agg_inv (f := Cu.v) (by decide) (fun _ => Cu.rd)
 exact ⟨⟨y0, y1, y2⟩, rfl, ⟨b0, b1, b2⟩⟩
def Gan.sh : List CSh := [.int .i64, .int .i64, .int .i64]
structure Gan.Dk (z : Gan) : Prop where
 prm : z.prm.Dk
 lev : -9223372036854775808 ≤ z.lev ∧ z.lev ≤ 9223372036854775807
theorem Gan.rd {vs : List V} (h : OkCs Gan.sh vs) : ∃ x : Gan, V.agg vs = x.v ∧ x.Dk := by
 obtain ⟨v0, r0, rfl, h0, t0⟩ := h.cons_inv
 obtain ⟨v1, r1, rfl, h1, t1⟩ := t0.cons_inv
 obtain ⟨v2, r2, rfl, h2, t2⟩ := t1.cons_inv
 obtain rfl := t2.nil_inv
 obtain ⟨y0, rfl, b0⟩ := h0.i64_inv
 obtain ⟨y1, rfl, b1⟩ := h1.i64_inv
 obtain ⟨y2, rfl, b2⟩ := h2.i64_inv
 exact ⟨⟨⟨y0, y1⟩, y2⟩, rfl, ⟨⟨b0, b1⟩, b2⟩⟩
def Sb.sh : List CSh := [.int .i64, .int .i64, .bool, .sl true 24 Gan.sh]
structure Sb.Dk (z : Sb) : Prop where
 num : -9223372036854775808 ≤ z.num ∧ z.num ≤ 9223372036854775807
 prio : -9223372036854775808 ≤ z.prio ∧ z.prio ≤ 9223372036854775807
 inh : True
 gains : z.gains.length ≤ 140737488351232 ∧ ∀ q ∈ z.gains, q.Dk
theorem Sb.rd {vs : List V} (h : OkCs Sb.sh vs) : ∃ x : Sb, V.agg vs = x.v ∧ x.Dk := by
 obtain ⟨v0, r0, rfl, h0, t0⟩ := h.cons_inv
 obtain ⟨v1, r1, rfl, h1, t1⟩ := t0.cons_inv
 obtain ⟨v2, r2, rfl, h2, t2⟩ := t1.cons_inv
 obtain ⟨v3, r3, rfl, h3, t3⟩ := t2.cons_inv
 obtain rfl := t3.nil_inv
 obtain ⟨y0, rfl, b0⟩ := h0.i64_inv
 obtain ⟨y1, rfl, b1⟩ := h1.i64_inv
 obtain ⟨y2, rfl⟩ := h2.bool_inv
 have b2 := trivial
 obtain ⟨y3, rfl, b3⟩ := h3.agg_inv (f := Gan.v) (by decide) (fun _ => Gan.rd)
 exact ⟨⟨y0, y1, y2, y3⟩, rfl, ⟨b0, b1, b2, b3⟩⟩
def Eff.sh : List CSh := [.int .i64, .int .i64, .sl true 16 Pt.sh, .int .i64, .int .i64, .int .i64]
structure Eff.Dk (z : Eff) : Prop where
 num : -9223372036854775808 ≤ z.num ∧ z.num ≤ 9223372036854775807
 attr : -9223372036854775808 ≤ z.attr ∧ z.attr ≤ 9223372036854775807
 wave : z.wave.length ≤ 140737488351232 ∧ ∀ q ∈ z.wave, q.Dk
 period : -9223372036854775808 ≤ z.period ∧ z.period ≤ 9223372036854775807
 spread : -9223372036854775808 ≤ z.spread ∧ z.spread ≤ 9223372036854775807
 size : -9223372036854775808 ≤ z.size ∧ z.size ≤ 9223372036854775807
theorem Eff.rd {vs : List V} (h : OkCs Eff.sh vs) : ∃ x : Eff, V.agg vs = x.v ∧ x.Dk := by
 obtain ⟨v0, r0, rfl, h0, t0⟩ := h.cons_inv
 obtain ⟨v1, r1, rfl, h1, t1⟩ := t0.cons_inv
 obtain ⟨v2, r2, rfl, h2, t2⟩ := t1.cons_inv
 obtain ⟨v3, r3, rfl, h3, t3⟩ := t2.cons_inv
 obtain ⟨v4, r4, rfl, h4, t4⟩ := t3.cons_inv
 obtain ⟨v5, r5, rfl, h5, t5⟩ := t4.cons_inv
 obtain rfl := t5.nil_inv
 obtain ⟨y0, rfl, b0⟩ := h0.i64_inv
 obtain ⟨y1, rfl, b1⟩ := h1.i64_inv
 obtain ⟨y2, rfl, b2⟩ := h2.agg_inv (f := Pt.v) (by decide) (fun _ => Pt.rd)
 obtain ⟨y3, rfl, b3⟩ := h3.i64_inv
 obtain ⟨y4, rfl, b4⟩ := h4.i64_inv
 obtain ⟨y5, rfl, b5⟩ := h5.i64_inv
 exact ⟨⟨y0, y1, y2, y3, y4, y5⟩, rfl, ⟨b0, b1, b2, b3, b4, b5⟩⟩
def Sho.sh : List CSh := [.str, .sl false 24 [.sl true 16 Pt.sh], .sl true 56 Prof.sh, .sl true 72 Fixt.sh, .sl true 32 Grp.sh, .sl true 32 Pal.sh, .sl true 40 Lst.sh, .sl true 48 Sb.sh, .sl true 64 Eff.sh]
structure Sho.Dk (z : Sho) : Prop where
 title : z.title.length ≤ 140737488351232
 curves : z.curves.length ≤ 140737488351232 ∧ ∀ l ∈ z.curves, l.length ≤ 140737488351232 ∧ ∀ q ∈ l, q.Dk
 profs : z.profs.length ≤ 140737488351232 ∧ ∀ q ∈ z.profs, q.Dk
 fixts : z.fixts.length ≤ 140737488351232 ∧ ∀ q ∈ z.fixts, q.Dk
 grps : z.grps.length ≤ 140737488351232 ∧ ∀ q ∈ z.grps, q.Dk
 pals : z.pals.length ≤ 140737488351232 ∧ ∀ q ∈ z.pals, q.Dk
 lsts : z.lsts.length ≤ 140737488351232 ∧ ∀ q ∈ z.lsts, q.Dk
 subs : z.subs.length ≤ 140737488351232 ∧ ∀ q ∈ z.subs, q.Dk
 effs : z.effs.length ≤ 140737488351232 ∧ ∀ q ∈ z.effs, q.Dk
theorem Sho.rd {vs : List V} (h : OkCs Sho.sh vs) : ∃ x : Sho, V.agg vs = x.v ∧ x.Dk := by
 obtain ⟨v0, r0, rfl, h0, t0⟩ := h.cons_inv
 obtain ⟨v1, r1, rfl, h1, t1⟩ := t0.cons_inv
 obtain ⟨v2, r2, rfl, h2, t2⟩ := t1.cons_inv
 obtain ⟨v3, r3, rfl, h3, t3⟩ := t2.cons_inv
 obtain ⟨v4, r4, rfl, h4, t4⟩ := t3.cons_inv
 obtain ⟨v5, r5, rfl, h5, t5⟩ := t4.cons_inv
 obtain ⟨v6, r6, rfl, h6, t6⟩ := t5.cons_inv
 obtain ⟨v7, r7, rfl, h7, t7⟩ := t6.cons_inv
 obtain ⟨v8, r8, rfl, h8, t8⟩ := t7.cons_inv
 obtain rfl := t8.nil_inv
 obtain ⟨y0, rfl, b0⟩ := h0.str_inv
 obtain ⟨y1, rfl, b1⟩ := h1.one_inv (f := Pt.vs) (by decide) (fun v h => h.agg_inv (f := Pt.v) (by decide) (fun _ => Pt.rd))
 obtain ⟨y2, rfl, b2⟩ := h2.agg_inv (f := Prof.v) (by decide) (fun _ => Prof.rd)
 obtain ⟨y3, rfl, b3⟩ := h3.agg_inv (f := Fixt.v) (by decide) (fun _ => Fixt.rd)
 obtain ⟨y4, rfl, b4⟩ := h4.agg_inv (f := Grp.v) (by decide) (fun _ => Grp.rd)
 obtain ⟨y5, rfl, b5⟩ := h5.agg_inv (f := Pal.v) (by decide) (fun _ => Pal.rd)
 obtain ⟨y6, rfl, b6⟩ := h6.agg_inv (f := Lst.v) (by decide) (fun _ => Lst.rd)
 obtain ⟨y7, rfl, b7⟩ := h7.agg_inv (f := Sb.v) (by decide) (fun _ => Sb.rd)
 obtain ⟨y8, rfl, b8⟩ := h8.agg_inv (f := Eff.v) (by decide) (fun _ => Eff.rd)
 exact ⟨⟨y0, y1, y2, y3, y4, y5, y6, y7, y8⟩, rfl, ⟨b0, b1, b2, b3, b4, b5, b6, b7, b8⟩⟩
theorem Pt.inj {x y : Pt} (h : x.v = y.v) : x = y := by
 obtain ⟨x0, x1⟩ := x; obtain ⟨y0, y1⟩ := y
 simp only [Pt.v, V.agg.injEq, List.cons.injEq, V.int.injEq, V.str.injEq, V.bool.injEq, V.sl.injEq, true_and, and_true] at h
 obtain ⟨h0, h1⟩ := h
 cases h0
 cases h1
 rfl
theorem Slt.inj {x y : Slt} (h : x.v = y.v) : x = y := by
 obtain ⟨x0, x1, x2⟩ := x; obtain ⟨y0, y1, y2⟩ := y
 simp only [Slt.v, V.agg.injEq, List.cons.injEq, V.int.injEq, V.str.injEq, V.bool.injEq, V.sl.injEq, true_and, and_true] at h
 obtain ⟨h0, h1, h2⟩ := h
 cases h0
 cases h1
 cases h2
 rfl
theorem Ftr.inj {x y : Ftr} (h : x.v = y.v) : x = y := by
 obtain ⟨x0, x1, x2, x3, x4, x5, x6, x7, x8, x9⟩ := x; obtain ⟨y0, y1, y2, y3, y4, y5, y6, y7, y8, y9⟩ := y
 simp only [Ftr.v, V.agg.injEq, List.cons.injEq, V.int.injEq, V.str.injEq, V.bool.injEq, V.sl.injEq, true_and, and_true] at h
 obtain ⟨h0, h1, h2, h3, h4, h5, h6, h7, h8, h9⟩ := h
 cases h0
 cases h1
 cases h2
 cases h3
 cases h4
 cases h5
 cases h6
 cases h7
 cases h8
 cases map_inj Slt.inj h9
 rfl
theorem Prof.inj {x y : Prof} (h : x.v = y.v) : x = y := by
 obtain ⟨x0, x1, x2, x3⟩ := x; obtain ⟨y0, y1, y2, y3⟩ := y
 simp only [Prof.v, V.agg.injEq, List.cons.injEq, V.int.injEq, V.str.injEq, V.bool.injEq, V.sl.injEq, true_and, and_true] at h
 obtain ⟨h0, h1, h2, h3⟩ := h
 cases h0
 cases h1
 cases h2
 cases map_inj Ftr.inj h3
 rfl
theorem Fixt.inj {x y : Fixt} (h : x.v = y.v) : x = y := by
 obtain ⟨x0, x1, x2, x3, x4, x5, x6⟩ := x; obtain ⟨y0, y1, y2, y3, y4, y5, y6⟩ := y
 simp only [Fixt.v, V.agg.injEq, List.cons.injEq, V.int.injEq, V.str.injEq, V.bool.injEq, V.sl.injEq, true_and, and_true] at h
 obtain ⟨h0, h1, h2, h3, h4, h5, h6⟩ := h
 cases h0
 cases h1
 cases h2
 cases h3
 cases h4
 cases h5
 cases h6
 rfl
theorem Prm.inj {x y : Prm} (h : x.v = y.v) : x = y := by
 obtain ⟨x0, x1⟩ := x; obtain ⟨y0, y1⟩ := y
 simp only [Prm.v, V.agg.injEq, List.cons.injEq, V.int.injEq, V.str.injEq, V.bool.injEq, V.sl.injEq, true_and, and_true] at h
 obtain ⟨h0, h1⟩ := h
 cases h0
 cases h1
 rfl
theorem Val.inj {x y : Val} (h : x.v = y.v) : x = y := by
 obtain ⟨x0, x1⟩ := x; obtain ⟨y0, y1⟩ := y
 simp only [Val.v, V.agg.injEq, List.cons.injEq, V.int.injEq, V.str.injEq, V.bool.injEq, V.sl.injEq, true_and, and_true] at h
 obtain ⟨h0, h1⟩ := h
 cases h0
 cases h1
 rfl
theorem Grp.inj {x y : Grp} (h : x.v = y.v) : x = y := by
 obtain ⟨x0, x1⟩ := x; obtain ⟨y0, y1⟩ := y
 simp only [Grp.v, V.agg.injEq, List.cons.injEq, V.int.injEq, V.str.injEq, V.bool.injEq, V.sl.injEq, true_and, and_true] at h
 obtain ⟨h0, h1⟩ := h
 cases h0
 cases map_inj (f := V.int .i64) (fun h => (V.int.inj h).2) h1
 rfl
theorem Hue.inj {x y : Hue} (h : x.v = y.v) : x = y := by
 obtain ⟨x0, x1, x2⟩ := x; obtain ⟨y0, y1, y2⟩ := y
 simp only [Hue.v, V.agg.injEq, List.cons.injEq, V.int.injEq, V.str.injEq, V.bool.injEq, V.sl.injEq, true_and, and_true] at h
 obtain ⟨h0, h1, h2⟩ := h
 cases h0
 cases h1
 cases h2
 rfl
theorem Pal.inj {x y : Pal} (h : x.v = y.v) : x = y := by
 obtain ⟨x0, x1⟩ := x; obtain ⟨y0, y1⟩ := y
 simp only [Pal.v, V.agg.injEq, List.cons.injEq, V.int.injEq, V.str.injEq, V.bool.injEq, V.sl.injEq, true_and, and_true] at h
 obtain ⟨h0, h1⟩ := h
 cases h0
 cases map_inj Hue.inj h1
 rfl
theorem Tim.inj {x y : Tim} (h : x.v = y.v) : x = y := by
 obtain ⟨x0, x1, x2, x3, x4, x5⟩ := x; obtain ⟨y0, y1, y2, y3, y4, y5⟩ := y
 simp only [Tim.v, V.agg.injEq, List.cons.injEq, V.int.injEq, V.str.injEq, V.bool.injEq, V.sl.injEq, true_and, and_true] at h
 obtain ⟨h0, h1, h2, h3, h4, h5⟩ := h
 cases h0
 cases h1
 cases h2
 cases h3
 cases h4
 cases h5
 rfl
theorem Mov.inj {x y : Mov} (h : x.v = y.v) : x = y := by
 obtain ⟨⟨x0, x1⟩, ⟨x2, x3⟩, x4⟩ := x; obtain ⟨⟨y0, y1⟩, ⟨y2, y3⟩, y4⟩ := y
 simp only [Mov.v, V.agg.injEq, List.cons.injEq, V.int.injEq, V.str.injEq, V.bool.injEq, V.sl.injEq, true_and, and_true] at h
 obtain ⟨h0, h1, h2, h3, h4⟩ := h
 cases h0
 cases h1
 cases h2
 cases h3
 cases h4
 rfl
theorem Cu.inj {x y : Cu} (h : x.v = y.v) : x = y := by
 obtain ⟨x0, x1, x2, x3, x4, x5, x6, x7, x8⟩ := x; obtain ⟨y0, y1, y2, y3, y4, y5, y6, y7, y8⟩ := y
 simp only [Cu.v, V.agg.injEq, List.cons.injEq, V.int.injEq, V.str.injEq, V.bool.injEq, V.sl.injEq, true_and, and_true] at h
 obtain ⟨h0, h1, h2, h3, h4, h5, h6, h7, h8⟩ := h
 cases h0
 cases h1
 cases map_inj Mov.inj h2
 cases map_inj Tim.inj h3
 cases h4
 cases h5
 cases h6
 cases h7
 cases h8
 rfl
theorem Lst.inj {x y : Lst} (h : x.v = y.v) : x = y := by
 obtain ⟨x0, x1, x2⟩ := x; obtain ⟨y0, y1, y2⟩ := y
 simp only [Lst.v, V.agg.injEq, List.cons.injEq, V.int.injEq, V.str.injEq, V.bool.injEq, V.sl.injEq, true_and, and_true] at h
 obtain ⟨h0, h1, h2⟩ := h
 cases h0
 cases h1
 cases map_inj Cu.inj h2
 rfl
theorem Gan.inj {x y : Gan} (h : x.v = y.v) : x = y := by
 obtain ⟨⟨x0, x1⟩, x2⟩ := x; obtain ⟨⟨y0, y1⟩, y2⟩ := y
 simp only [Gan.v, V.agg.injEq, List.cons.injEq, V.int.injEq, V.str.injEq, V.bool.injEq, V.sl.injEq, true_and, and_true] at h
 obtain ⟨h0, h1, h2⟩ := h
 cases h0
 cases h1
 cases h2
 rfl
theorem Sb.inj {x y : Sb} (h : x.v = y.v) : x = y := by
 obtain ⟨x0, x1, x2, x3⟩ := x; obtain ⟨y0, y1, y2, y3⟩ := y
 simp only [Sb.v, V.agg.injEq, List.cons.injEq, V.int.injEq, V.str.injEq, V.bool.injEq, V.sl.injEq, true_and, and_true] at h
 obtain ⟨h0, h1, h2, h3⟩ := h
 cases h0
 cases h1
 cases h2
 cases map_inj Gan.inj h3
 rfl
theorem Eff.inj {x y : Eff} (h : x.v = y.v) : x = y := by
 obtain ⟨x0, x1, x2, x3, x4, x5⟩ := x; obtain ⟨y0, y1, y2, y3, y4, y5⟩ := y
 simp only [Eff.v, V.agg.injEq, List.cons.injEq, V.int.injEq, V.str.injEq, V.bool.injEq, V.sl.injEq, true_and, and_true] at h
 obtain ⟨h0, h1, h2, h3, h4, h5⟩ := h
 cases h0
 cases h1
 cases map_inj Pt.inj h2
 cases h3
 cases h4
 cases h5
 rfl
theorem Sho.inj {x y : Sho} (h : x.v = y.v) : x = y := by
 obtain ⟨x0, x1, x2, x3, x4, x5, x6, x7, x8⟩ := x; obtain ⟨y0, y1, y2, y3, y4, y5, y6, y7, y8⟩ := y
 simp only [Sho.v, V.agg.injEq, List.cons.injEq, V.int.injEq, V.str.injEq, V.bool.injEq, V.sl.injEq, true_and, and_true] at h
 obtain ⟨h0, h1, h2, h3, h4, h5, h6, h7, h8⟩ := h
 cases h0
 cases map_inj (f := Pt.vs) (fun h => map_inj Pt.inj (V.sl.inj h)) h1
 cases map_inj Prof.inj h2
 cases map_inj Fixt.inj h3
 cases map_inj Grp.inj h4
 cases map_inj Pal.inj h5
 cases map_inj Lst.inj h6
 cases map_inj Sb.inj h7
 cases map_inj Eff.inj h8
 rfl
end Go.Proofs.YtflbieghmgobgaaGreatDoor

namespace Go.Proofs.YtflbieghmgobgaaGreatDoor
open Go.Sha
set_option maxRecDepth 100000
variable {g : List (Nat × Obj)} {n : Nat}
theorem Cu.Dk.ok {x : Cu} (h : x.Dk) : x.ok := ⟨by have := h.num; omega, by have := h.label; omega, by have := h.moves.1; omega, by have := h.parts.1; omega, by have := h.link; omega⟩
theorem Lst.Dk.ok {x : Lst} (h : x.Dk) : x.ok := ⟨by have := h.cues.1; omega, fun q hq => (h.cues.2 q hq).ok⟩
theorem Prof.Dk.ok {x : Prof} (h : x.Dk) : x.ok ∧ x.okR := ⟨⟨by have := h.feats.1; omega, fun q hq => by have := (h.feats.2 q hq).wheel.1; omega, by have := h.name; omega⟩,
 by have := h.feats.1; omega, fun q hq => ⟨by have := (h.feats.2 q hq).wheel.1; omega, fun z hz => by have := ((h.feats.2 q hq).wheel.2 z hz).name; omega⟩, by have := h.name; omega⟩
theorem Sho.Dk.ok {x : Sho} (h : x.Dk) : x.ok :=
  ⟨by have := h.title; omega, ⟨by have := h.curves.1; omega, fun q hq => by have := (h.curves.2 q hq).1; omega⟩, ⟨by have := h.profs.1; omega, fun q hq => (h.profs.2 q hq).ok.1, fun q hq => (h.profs.2 q hq).ok.2⟩,
   ⟨by have := h.fixts.1; omega, fun q hq => by have := (h.fixts.2 q hq).cable; omega⟩, ⟨by have := h.grps.1; omega, fun q hq => by have := (h.grps.2 q hq).chans.1; omega⟩, ⟨by have := h.pals.1; omega, fun q hq => by have := (h.pals.2 q hq).hues.1; omega⟩,
   ⟨by have := h.lsts.1; omega, fun q hq => (h.lsts.2 q hq).ok⟩, ⟨by have := h.subs.1; omega, fun q hq => by have := (h.subs.2 q hq).gains.1; omega⟩, ⟨by have := h.effs.1; omega, fun q hq => by have := (h.effs.2 q hq).wave.1; omega⟩⟩
open Classical in
noncomputable def h13 (args : List V) : Option VRes := if h : ∃ s : Sho, args = [s.v] ∧ s.ok then some (.ret (.tup [.sl ((parS h.choose).map Prm.v), .int .i64 (shoC h.choose)])) else none
theorem h13_v {s : Sho} (h : s.ok) : h13 [s.v] = some (.ret (.tup [.sl ((parS s).map Prm.v), .int .i64 (shoC s)])) := by
 have hx : ∃ t : Sho, [s.v] = [t.v] ∧ t.ok := ⟨s, rfl, h⟩
 rw [h13, dif_pos hx]
 have e : hx.choose = s := (Sho.inj (List.cons.inj hx.choose_spec.1).1).symm
 rw [e]
def mem2 : List Nat := [11, 14, 15, 16, 17, 18, 19, 21, 22, 23, 24, 31, 32, 34, 35, 36, 37, 38, 39, 40, 41, 42, 43, 44, 53, 54]
def inL (k : Nat) : List Nat → Bool
 | [] => false
 | x :: r => bif Nat.beq k x then true else inL k r
noncomputable def HH2 : EvF := ⟨[], fun f args st => bif Nat.beq f 13 then (h13 args).map (fun r => (r, st)) else bif inL f mem2 then run Tryz.prog HH f args st else none⟩
@[push_cast] theorem HH2_raw : HH2.raw = [] := @_root_.id (_ = _) rfl
theorem HH2_ok (hH : ESound Tryz.prog HH) : ESound Tryz.prog HH2 := fun f args st r s h => by
 simp only [HH2] at h
 by_cases hf : f = 13
 ·subst hf
  simp only [show Nat.beq 13 13 = true from rfl, cond_true] at h
  obtain ⟨z, hz, e⟩ := Option.map_eq_some_iff.1 h
  cases e
  unfold h13 at hz
  split at hz
  ·rename_i hx
   cases hz
   obtain ⟨e1, e2⟩ := hx.choose_spec
   have := v13 hH e2 (st := st)
   rw [← e1] at this
   exact this
  ·cases hz
 ·have : Nat.beq f 13 = false := by cases e : Nat.beq f 13 with
   | false => rfl
   | true => exact absurd (Nat.eq_of_beq_eq_true e) hf
  simp only [this, cond_false] at h
  cases hi : inL f mem2 with
  | false => rw [hi] at h; cases h
  | true => rw [hi] at h; exact run_sound mixed hH _ _ _ _ _ h
theorem up {k : Nat} {args : List V} {st : St} {r : VRes × St} (h : run Tryz.prog HH k args st = some r) (h1 : Nat.beq k 13 = false := by rfl) (h2 : inL k mem2 = true := by rfl) : run Tryz.prog HH2 k args st = some r := by
 refine run_H ?_
 simp only [HH2, h1, h2, cond_false, cond_true, h]
theorem f13 {s : Sho} (h : s.ok) {st : St} : run Tryz.prog HH2 13 [s.v] st = some (.ret (.tup [.sl ((parS s).map Prm.v), .int .i64 (shoC s)]), st) := run_H (by simp only [HH2, show Nat.beq 13 13 = true from rfl, cond_true, h13_v h, Option.map_some])
theorem th_ok : theatre.ok := by
 refine ⟨by decide, ⟨by decide, by simp [theatre]⟩, ⟨by decide, ?_, ?_⟩, ⟨by decide, ?_⟩, ⟨by decide, by simp [theatre]⟩, ⟨by decide, ?_⟩, ⟨by decide, ?_⟩, ⟨by decide, by simp [theatre]⟩, ⟨by decide, by simp [theatre]⟩⟩
 ·intro q hq; simp [theatre] at hq; subst hq; exact ⟨by decide, by simp, by decide⟩
 ·intro q hq; simp [theatre] at hq; subst hq; exact ⟨by decide, fun z hz => by simp at hz; rcases hz with rfl | rfl <;> exact ⟨by decide, by simp⟩, by decide⟩
 ·intro q hq; simp [theatre] at hq; rcases hq with rfl | rfl <;> decide
 ·intro q hq; simp [theatre] at hq; subst hq; decide
 ·intro q hq; simp [theatre] at hq; subst hq; exact ⟨by decide, by simp⟩
theorem g12 {st : St} : run Tryz.prog HH2 12 [] st = some (.ret (.bool true), st) := by
 have h53 := fun st => up (f53 (st := st))
 have h54 := fun c st => up (f54 (c := c) (st := st))
 have h13 := fun st => f13 (st := st) th_ok
 have h24 := fun c a st => up (f24 (p := ⟨c, a⟩) (st := st) th_ok)
 have h18 := fun c a x y st => up (f18 (p := ⟨c, a⟩) (v := ⟨x, y⟩) (st := st) th_ok)
 have h39 := fun v st => up (f39 (v := v) (st := st) th_ok)
 have h17 := fun st => up (f17 (l := [⟨1, 0⟩, ⟨1, 1⟩, ⟨2, 0⟩, ⟨2, 1⟩]) (by decide) (st := st))
 rw [th_par, th_C] at h13
 have a1 : (ftrP theatre ⟨2, 1⟩).home = 32768 ∧ okP theatre ⟨2, 1⟩ = true ∧ ftrE theatre ⟨2, 1⟩ = 0 := ⟨by kernel_rfl, by kernel_rfl, by kernel_rfl⟩
 have a2 : (ftrP theatre ⟨2, 2⟩).home = 0 ∧ okP theatre ⟨2, 2⟩ = false ∧ ftrE theatre ⟨2, 2⟩ = 0 := ⟨by kernel_rfl, by kernel_rfl, by kernel_rfl⟩
 have a3 : levV theatre ⟨1, 1⟩ ⟨5, 0⟩ = 100 ∧ levE theatre ⟨1, 1⟩ ⟨5, 0⟩ = 0 := ⟨by kernel_rfl, by kernel_rfl⟩
 have a4 : levV theatre ⟨1, 0⟩ ⟨5, 0⟩ = 0 ∧ levE theatre ⟨1, 0⟩ ⟨5, 0⟩ = 0 := ⟨by kernel_rfl, by kernel_rfl⟩
 have a5 : levV theatre ⟨1, 1⟩ ⟨6, 0⟩ = 32768 ∧ levE theatre ⟨1, 1⟩ ⟨6, 0⟩ = 0 := ⟨by kernel_rfl, by kernel_rfl⟩
 have a6 : ix (fun x : Lst => x.num == 7) theatre.lsts 0 = 0 ∧ ix (fun x : Lst => x.num == 8) theatre.lsts 0 = -1 := ⟨by kernel_rfl, by kernel_rfl⟩
 rw [run_shut F12 rfl rfl rfl]
 push_cast [Sho.v, Prm.v, Val.v, List.map_cons, List.map_nil] at h13 h24 h18 h39 h17 h54 h53
 push_cast [h53, h54, h13, h24, h18, h39, h17, Sho.v, Prm.v, Val.v, a1, a2, a3, a4, a5, a6, th_C, fndI', fndE]
end Go.Proofs.YtflbieghmgobgaaGreatDoor

namespace Go.Proofs.YtflbieghmgobgaaGreatDoor
open Go.Sha
set_option maxRecDepth 100000
variable {g : List (Nat × Obj)} {n : Nat}
theorem parS_len {s : Sho} : (parS s).length < 140737488355328 := by
 unfold parS
 split
 ·rename_i hs
  have := keyP_len hs
  rw [parP, List.length_mergeSort]; omega
 ·decide
theorem l3 {s : Sho} (h : s.ok) {st : St} : run Tryz.prog HH2 3 [s.v] st = some (.ret (.bool true), st) := by
 obtain ⟨b, h11⟩ := f11 h
 have h11 := fun st => up (h11 st)
 have h12 := fun st => g12 (st := st)
 have h13 := fun st => f13 (st := st) h
 have h14 := fun st => up (f14 (st := st) h)
 have h15 := fun st => up (f15 (st := st) h)
 have h16 := fun st => up (f16 (st := st) h)
 have h17 := fun st => up (f17 (st := st) (l := parS s) parS_len)
 push_cast [Sho.v, Prm.v] at h11 h13 h14 h15 h16 h17
 rw [run_shut F3 rfl rfl (by simp)]
 cases b <;> push_cast [Sho.v, Prm.v, h11, h12, h13, h14, h15, h16, h17]
theorem l9 {s : Sho} {v : Int} (h : s.ok) {st : St} : run Tryz.prog HH2 9 [s.v, .int .i64 v] st = some (.ret (.bool true), st) := by
 obtain ⟨b, h11⟩ := f11 h
 have h11 := fun st => up (h11 st)
 have h12 := fun st => g12 (st := st)
 have h39 := fun v st => up (f39 (st := st) (v := v) h)
 have h40 := fun v st => up (f40 (st := st) (v := v) h)
 have h41 := fun v st => up (f41 (st := st) (v := v) h)
 have h42 := fun v st => up (f42 (st := st) (v := v) h)
 have h43 := fun v st => up (f43 (st := st) (v := v) h)
 have h44 := fun v st => up (f44 (st := st) (v := v) h)
 push_cast [Sho.v] at h11 h39 h40 h41 h42 h43 h44
 rw [run_shut F9 rfl rfl (by simp)]
 cases b <;> push_cast [Sho.v, h11, h12, h39, h40, h41, h42, h43, h44]
theorem l4 {s : Sho} {p : Prm} {v : Val} (h : s.ok) {st : St} : run Tryz.prog HH2 4 [s.v, p.v, v.v] st = some (.ret (.bool true), st) := by
 obtain ⟨b, h11⟩ := f11 h
 have h11 := fun st => up (h11 st)
 have h12 := fun st => g12 (st := st)
 have h18 := fun st => up (f18 (p := p) (v := v) (st := st) h)
 have h19 := fun st => up (f19 (p := p) (v := v) (st := st) h)
 push_cast [Sho.v, Prm.v, Val.v] at h11 h18 h19
 rw [run_shut F4 rfl rfl (by simp)]
 cases b <;> push_cast [Sho.v, Prm.v, Val.v, h11, h12, h18, h19]
theorem ftrR_wheel {s : Sho} {p : Prm} (h : s.ok) : (ftrR s p).wheel.length < 140737488355328 := by
 unfold ftrR
 split
 ·unfold ownR havR
  cases e : havL s.profs p.attr (partsF s.fixts p.chan 1 64) with
  | none => decide
  | some y =>
   obtain ⟨a, b⟩ := havL_some e
   have hf := List.mem_of_find?_eq_some b
   cases e2 : pfx s.profs y.1.prof with
   | none => rw [e2] at hf; simp at hf
   | some q => rw [e2] at hf; exact (h.p.2.1 q (List.mem_of_find?_eq_some e2)).b _ hf
 ·decide
theorem l8 {s : Sho} {p : Prm} (h : s.ok) {st : St} : run Tryz.prog HH2 8 [s.v, p.v] st = some (.ret (.bool true), st) := by
 obtain ⟨b, h11⟩ := f11 h
 have h11 := fun st => up (h11 st)
 have h12 := fun st => g12 (st := st)
 have h22 := fun st => up (f22' (p := p) (st := st) h)
 have h24 := fun st => up (f24 (p := p) (st := st) h)
 have h34 := fun st => up (f34 (p := p) (st := st) h)
 have h35 := fun st => up (f35 (p := p) (st := st) h)
 have h36 := fun st => up (f36 (p := p) (st := st) h)
 have h37 := fun st => up (f37 (p := p) (st := st) h)
 have h38 := fun st => up (f38 (x := ftrR s p) (ftrR_wheel h) (st := st))
 obtain ⟨e1, e2⟩ := ftr_eq (s := s) (p := p)
 simp only [e1, e2] at h22 h24 h36
 generalize ftrR s p = f at *
 generalize okR s p = o at *
 push_cast [Sho.v, Prm.v, Ftr.v, Slt.v] at h11 h22 h24 h34 h35 h36 h37 h38
 rw [run_shut F8 rfl rfl (by simp)]
 cases b <;> push_cast [Sho.v, Prm.v, Ftr.v, Slt.v, h11, h12, h22, h24, h34, h35, h36, h37, h38]
end Go.Proofs.YtflbieghmgobgaaGreatDoor

namespace Go.Proofs.YtflbieghmgobgaaGreatDoor
open Go.Sha
set_option maxRecDepth 100000
theorem own_mem {s : Sho} {p : Prm} (hs : shoC s = 0) : (ownR s p).isSome = true ↔ p ∈ parP s := by
 rw [parP_ok.2]
 have hf := fix_ok (shoC_parts hs).2.2.2.1
 constructor
 ·intro h
  obtain ⟨f, h1⟩ := Option.isSome_iff_exists.1 h
  obtain ⟨e, x, hx, ec, q, hq, _, hm⟩ := own_in h1
  refine ⟨x, hx, ?_⟩
  rw [prmsX, List.mem_map]
  refine ⟨f, by rw [ftsX, hq]; exact hm, ?_⟩
  rw [e, ec]
 ·rintro ⟨x, hx, hm⟩
  rw [prmsX, List.mem_map] at hm
  obtain ⟨f, hm, rfl⟩ := hm
  cases e : ownR s ⟨x.chan, f.attr⟩ with
  | some _ => rfl
  | none =>
   have e := Option.map_eq_none_iff.1 e
   have hG : hasG s.profs ⟨x.chan, f.attr⟩ x ≠ none := by
    rw [hasG, if_pos rfl]
    intro h
    have := List.find?_eq_none.1 h f hm
    simp at this
   have := rng_ok (aloC_ok (hf.2.2.2 x hx)).1
   exact ((hav_least (ps := s.profs) (p := ⟨x.chan, f.attr⟩) (l := s.fixts) (m := 64) (k := 1)).2 e x hx hG (by omega) (by omega)).elim
theorem par_ok {s : Sho} (hs : shoC s = 0) {q : Prm} (hq : q ∈ parP s) : prmC 1 q = 0 ∧ ftrE s q = 0 ∧ okP s q = true ∧ (ftrP s q).attr = q.attr ∧ lvl (ftrP s q).home := by
 have hk : q ∈ keyP s := (List.mergeSort_perm _ _).mem_iff.1 hq
 have hr := keyP_rng hs q hk
 have h1 : prmC 1 q = 0 := by unfold prmC; simp; omega
 have h2 : ftrE s q = 0 := by rw [ftrE, if_neg (by simpa using hs), h1]
 obtain ⟨e1, e2⟩ := ftr_eq (s := s) (p := q)
 have h3 := (own_mem hs).2 hq
 obtain ⟨f, hf⟩ := Option.isSome_iff_exists.1 h3
 have h4 := own_home (p := q) hs
 rw [hf] at h4
 refine ⟨h1, h2, by rw [e2, okR, if_pos h2, h3], ?_, ?_⟩
 ·rw [e1, ftrR, if_pos h2, hf]; exact (own_in hf).1
 ·rw [e1, ftrR, if_pos h2, hf]; exact h4
theorem shoC_of {x : Sho} (h1 : labC x.title = 0) (h2 : uniC x.curves x.profs x.fixts = 0) (h3 : grpsC x.grps = 0) (h4 : palsCR x.pals = 0) (h5 : lstsC x.lsts = 0) (h6 : subsCR x.subs = 0) (h7 : effsC x.effs = 0) : shoC x = 0 := by
 unfold shoC; simp [h1, h2, h3, h4, h5, h6, h7]
theorem shoC_uni {x : Sho} (h : shoC x = 0) : uniC x.curves x.profs x.fixts = 0 := by
 obtain ⟨_, a2, a3, a4, _⟩ := shoC_parts h
 simp [uniC, a2, a3, a4]
theorem lsts_all {l : List Lst} : ∀ {r : List Lst} {j : Nat}, l.drop j = r → lstsL l r j = 0 → ∀ x ∈ r, lstR x = 0
 | [], _, _, _, x, hx => by simp at hx
 | q :: r, j, hd, h, x, hx => by
  rw [lstsL] at h
  split at h
  ·rename_i a; exact absurd h a
  ·split at h
   ·cases h
   ·rename_i a b
    rcases List.mem_cons.1 hx with rfl | hx
    ·exact Classical.not_not.1 a
    ·exact lsts_all (drop_succ hd) h x hx
theorem drop_get {α : Type} {l r : List α} {q : α} {j : Nat} (hd : l.drop j = q :: r) : l[j]? = some q := by
 have := congrArg (fun x => x[0]?) hd
 simpa using this
theorem lsts_app {l : List Lst} {q : Lst} (hq : lstR q = 0) (hl : l.getD (l.length - 1) default = q) : ∀ {r : List Lst} {j : Nat}, j ≤ l.length → l.drop j = r → 0 < l.length → lstsL l r j = 0 → lstsL (l ++ [q]) (r ++ [q]) j = 9
 | [], j, hj, hd, h0, _ => by
  have e : j = l.length := by have := List.drop_eq_nil_iff.1 hd; omega
  subst e
  have e1 : (l ++ [q]).getD (l.length - 1) default = q := by rw [← hl, List.getD_eq_getElem?_getD, List.getD_eq_getElem?_getD, List.getElem?_append_left (by omega)]
  rw [List.nil_append, lstsL, if_neg (by simpa using hq), e1, if_pos ⟨h0, Int.le_refl _⟩]
 | x :: r, j, hj, hd, h0, h => by
  have hlt := drop_le hd
  rw [lstsL] at h
  rw [List.cons_append, lstsL]
  have e1 : (l ++ [q]).getD (j - 1) default = l.getD (j - 1) default := by rw [List.getD_eq_getElem?_getD, List.getD_eq_getElem?_getD, List.getElem?_append_left (by omega)]
  rw [e1]
  split at h
  ·rename_i a; exact absurd h a
  ·split at h
   ·cases h
   ·rename_i a b
    rw [if_neg a, if_neg b]
    exact lsts_app hq hl (by omega) (drop_succ hd) h0 h
theorem twice {s : Sho} {q : Lst} (hs : shoC s = 0) (h0 : 0 < s.lsts.length) (h8 : s.lsts.length < 8) (hl : s.lsts.getD (s.lsts.length - 1) default = q) : shoC { s with lsts := s.lsts ++ [q] } = 9 := by
 obtain ⟨a1, a2, a3, a4, a5, a6, a7, a8, a9⟩ := shoC_parts hs
 have hu := shoC_uni hs
 have h1 : lstsL s.lsts s.lsts 0 = 0 := by
  unfold lstsC at a7
  split at a7
  ·cases a7
  ·exact a7
 have hm : q ∈ s.lsts := by
  rw [← hl, List.getD_eq_getElem?_getD, List.getElem?_eq_getElem (by omega)]
  exact List.getElem_mem _
 have hR : lstR q = 0 := lsts_all (l := s.lsts) (r := s.lsts) (j := 0) rfl h1 q hm
 have h2 := lsts_app hR hl (Nat.zero_le _) rfl h0 h1
 have h3 : lstsC (s.lsts ++ [q]) = 9 := by
  rw [lstsC, if_neg (by simp; omega)]; exact h2
 unfold shoC
 simp [a1, hu, a5, a6, h3]
end Go.Proofs.YtflbieghmgobgaaGreatDoor

namespace Go.Proofs.YtflbieghmgobgaaGreatDoor
open Go.Sha
set_option maxRecDepth 100000
variable {g : List (Nat × Obj)} {n : Nat}
theorem asc_gen {α : Type} [Inhabited α] {num : α → Int} {l : List α} {F : List α → Nat → Int} (hF : ∀ q r j, F (q :: r) j = 0 → ¬ (0 < j ∧ num q ≤ num (l.getD (j - 1) default)) ∧ F r (j + 1) = 0) :
  ∀ {r : List α} {j : Nat}, l.drop j = r → F r j = 0 → (l.take j).Pairwise (fun a b => num a < num b) → l.Pairwise fun a b => num a < num b
 | [], j, hd, _, hp => by
  have : l.length ≤ j := List.drop_eq_nil_iff.1 hd
  rwa [List.take_of_length_le this] at hp
 | q :: r, j, hd, h, hp => by
  obtain ⟨h2, h3⟩ := hF q r j h
  refine asc_gen hF (drop_succ hd) h3 ?_
  rw [take_snoc hd]
  refine List.pairwise_append.2 ⟨hp, List.pairwise_singleton .., fun y hy z hz => ?_⟩
  rw [List.mem_singleton.1 hz]
  obtain ⟨k, hk⟩ := List.mem_iff_getElem?.1 hy
  have hj := drop_le hd
  rw [List.getElem?_take] at hk
  split at hk
  ·rename_i hkj
   have e : l.getD (j - 1) default = l[j - 1] := by rw [List.getD_eq_getElem?_getD, List.getElem?_eq_getElem (by omega)]; rfl
   rw [e] at h2
   rw [List.getElem?_eq_getElem (by omega)] at hk
   rw [← Option.some.inj hk]
   rcases Nat.lt_or_ge k (j - 1) with hk2 | hk2
   ·have hm := List.pairwise_iff_getElem.1 hp k (j - 1) (by simp; omega) (by simp; omega) hk2
    rw [List.getElem_take, List.getElem_take] at hm
    omega
   ·have : k = j - 1 := by omega
    subst this
    omega
  ·cases hk
theorem lsts_asc {l : List Lst} (h : lstsC l = 0) : l.Pairwise fun a b => a.num < b.num := by
 unfold lstsC at h
 split at h
 ·cases h
 ·refine asc_gen (num := Lst.num) (F := lstsL l) (fun q r j h => ?_) (j := 0) rfl h List.Pairwise.nil
  rw [lstsL] at h
  repeat' split at h
  all_goals first | (rename_i a; exact absurd h a) | cases h | exact ⟨by assumption, h⟩
theorem subs_asc {l : List Sb} (h : subsCR l = 0) : l.Pairwise fun a b => a.num < b.num := by
 unfold subsCR at h
 split at h
 ·cases h
 ·refine asc_gen (num := Sb.num) (F := subsR l) (fun q r j h => ?_) (j := 0) rfl h List.Pairwise.nil
  rw [subsR] at h
  repeat' split at h
  all_goals first | (rename_i a; exact absurd h a) | cases h | exact ⟨by assumption, h⟩
theorem effs_asc {l : List Eff} (h : effsC l = 0) : l.Pairwise fun a b => a.num < b.num := by
 unfold effsC at h
 split at h
 ·cases h
 ·refine asc_gen (num := Eff.num) (F := effsL l) (fun q r j h => ?_) (j := 0) rfl h List.Pairwise.nil
  rw [effsL] at h
  repeat' split at h
  all_goals first | (rename_i a; exact absurd h a) | cases h | exact ⟨by assumption, h⟩
theorem ix_at {α : Type} {num : α → Int} : ∀ {l : List α} {k j : Nat} {q : α}, l.Pairwise (fun a b => num a < num b) → l[k]? = some q → ix (fun x => num x == num q) l j = ((j + k : Nat) : Int)
 | [], k, j, q, _, h => by cases h
 | x :: r, 0, j, q, _, h => by
  cases h; simp [ix]
 | x :: r, k + 1, j, q, hp, h => by
  have h1 := List.pairwise_cons.1 hp
  have h2 : num x < num q := h1.1 q (List.mem_of_getElem? h)
  rw [ix, if_neg (by simp; omega), ix_at h1.2 h, show j + 1 + k = j + (k + 1) by omega]
theorem ix_neg {α : Type} {p : α → Bool} : ∀ {l : List α} {j : Nat}, (ix p l j < 0) = (l.any p = false)
 | l, j => by
  have := ix_ge (p := p) (l := l) (j := j)
  rw [eq_iff_iff] at this ⊢
  constructor
  ·intro h
   cases e : l.any p with
   | false => rfl
   | true => exact absurd (this.2 e) (by omega)
  ·intro h
   have h2 : ¬ 0 ≤ ix p l j := fun e => by rw [this.1 e] at h; cases h
   omega
theorem g20 {s : Sho} (h : s.ok) : ∃ b : Bool, (b = true → shoC s = 0) ∧ ∀ st, run Tryz.prog HH2 20 [s.v] st = some (.ret (.bool b), st) := by
 obtain ⟨b, h11⟩ := f11 h
 have h11 := fun st => up (h11 st)
 have h16 := fun st => up (f16 (st := st) h)
 cases b
 ·refine ⟨false, fun h => (by cases h), fun st => ?_⟩
  push_cast [Sho.v] at h11
  rw [run_shut F20 rfl rfl (by simp)]
  push_cast [Sho.v, h11]
 ·refine ⟨shoC s == 0, fun h => by simpa using h, fun st => ?_⟩
  push_cast [Sho.v] at h11 h16
  rw [run_shut F20 rfl rfl (by simp)]
  push_cast [Sho.v, h11, h16]
abbrev shoF (s : Sho) : List V := [.str s.title, .sl (s.curves.map Pt.vs), .sl (s.profs.map Prof.v), .sl (s.fixts.map Fixt.v), .sl (s.grps.map Grp.v), .sl (s.pals.map Pal.v), .sl (s.lsts.map Lst.v), .sl (s.subs.map Sb.v), .sl (s.effs.map Eff.v)]
def stW (g : List (Nat × Obj)) (n : Nat) (s : Sho) : St := ⟨n, [(0, shoF s)], [], ⟨[], g, []⟩⟩
@[push_cast] theorem stW_eq {s : Sho} : stW g n s = ⟨n, [(0, shoF s)], [], ⟨[], g, []⟩⟩ := @_root_.id (_ = _) rfl
theorem M10_0 {s : Sho} {v : Int} (h0 : s.ok) (hs : shoC s = 0) : ∀ r j, s.lsts.drop j = r → ∀ b, runL Tryz.prog HH2 [1, 2, 5, 26, 27, 28] 1 B10_0 [(1, .int .i64 v), (2, .ptr 0 0), (5, .bool b), (26, .sl (s.lsts.map Lst.v)), (27, .int .i64 s.lsts.length), (28, .int .i64 j)] (stW g 1 s)
  = some (.exit 0, [(1, .int .i64 v), (2, .ptr 0 0), (5, .bool (b || r.any fun x => x.num == v))], stW g 1 s) := by
 have hl := h0.k.1
 have hp := lsts_asc (shoC_parts hs).2.2.2.2.2.2.1
 refine drop_ind (fun j h b => ?_) (fun q r j h hx hd ih b => ?_)
 all_goals rw [runL_of B10_0.eq_1]
 ·have h1 : ¬ (j : Int) < s.lsts.length := by omega
  push_cast [h1, List.any_nil, Bool.or_false, Lst.v]
 ·have h1 : (j : Int) < s.lsts.length := by omega
  have hw := iw1 (j := j) (by omega)
  have hi := ix_at (num := Lst.num) (j := 0) hp (drop_get hd)
  have h39 := fun st => up (f39 (v := q.num) (st := st) h0)
  have hj : ¬ ((0 + j : Nat) : Int) < 0 := by omega
  rw [hs, hi] at h39
  have ih := ih (b || q.num == v)
  push_cast [Sho.v, Lst.v, fndI', fndE, hj, Nat.zero_add] at h39
  push_cast [h1, hw, hx, Lst.v, h39, List.any_cons] at ih ⊢
  have hj0 : ¬ (j : Int) < 0 := by omega
  rw [if_neg hj0, if_neg hj0, if_neg (by simp), ih, Bool.or_assoc]
theorem M10_1 {s : Sho} (h0 : s.ok) (hs : shoC s = 0) : ∀ r j, s.subs.drop j = r → runL Tryz.prog HH2 [2, 66, 67, 68] 1 B10_1 [(2, .ptr 0 0), (66, .sl (s.subs.map Sb.v)), (67, .int .i64 s.subs.length), (68, .int .i64 j)] (stW g 1 s) = some (.exit 2, [(2, .ptr 0 0)], stW g 1 s) := by
 have hl := h0.s.1
 have hp := subs_asc (shoC_parts hs).2.2.2.2.2.2.2.1
 refine drop_ind (fun j h => ?_) (fun q r j h hx hd ih => ?_)
 all_goals rw [runL_of B10_1.eq_1]
 ·have h1 : ¬ (j : Int) < s.subs.length := by omega
  push_cast [h1, Sb.v]
 ·have h1 : (j : Int) < s.subs.length := by omega
  have hw := iw1 (j := j) (by omega)
  have hi := ix_at (num := Sb.num) (j := 0) hp (drop_get hd)
  have hf := fun st => up (f41 (v := q.num) (st := st) h0)
  rw [hs, hi] at hf
  push_cast [Sho.v, Sb.v, fndI', fndE, Nat.zero_add] at hf
  push_cast [h1, hw, hx, Sb.v, hf] at ih ⊢
  have hj0 : ¬ (j : Int) < 0 := by omega
  rw [if_neg hj0, if_neg hj0, if_neg (by simp), ih]
theorem M10_2 {s : Sho} (h0 : s.ok) (hs : shoC s = 0) : ∀ r j, s.effs.drop j = r → runL Tryz.prog HH2 [2, 89, 90, 91] 1 B10_2 [(2, .ptr 0 0), (89, .sl (s.effs.map Eff.v)), (90, .int .i64 s.effs.length), (91, .int .i64 j)] (stW g 1 s) = some (.exit 4, [(2, .ptr 0 0)], stW g 1 s) := by
 have hl := h0.e.1
 have hp := effs_asc (shoC_parts hs).2.2.2.2.2.2.2.2
 refine drop_ind (fun j h => ?_) (fun q r j h hx hd ih => ?_)
 all_goals rw [runL_of B10_2.eq_1]
 ·have h1 : ¬ (j : Int) < s.effs.length := by omega
  push_cast [h1, Eff.v]
 ·have h1 : (j : Int) < s.effs.length := by omega
  have hw := iw1 (j := j) (by omega)
  have hi := ix_at (num := Eff.num) (j := 0) hp (drop_get hd)
  have hf := fun st => up (f43 (v := q.num) (st := st) h0)
  rw [hs, hi] at hf
  push_cast [Sho.v, Eff.v, fndI', fndE, Nat.zero_add] at hf
  push_cast [h1, hw, hx, Eff.v, hf] at ih ⊢
  have hj0 : ¬ (j : Int) < 0 := by omega
  rw [if_neg hj0, if_neg hj0, if_neg (by simp), ih]
theorem l10 {s : Sho} {v : Int} (h : s.ok) {st : St} : run Tryz.prog HH2 10 [s.v, .int .i64 v] st = some (.ret (.bool true), st) := by
 obtain ⟨b, hb, h20⟩ := g20 h
 have h12 := fun st => g12 (st := st)
 push_cast [Sho.v] at h20
 rw [run_shut F10 rfl rfl (by simp)]
 cases b
 ·push_cast [Sho.v, h20, h12]
 ·have hs := hb rfl
  have h39 := fun st => up (f39 (v := v) (st := st) h)
  rw [hs] at h39
  have k0 := M10_0 (g := st.x.gl) (v := v) h hs s.lsts 0 rfl false
  have k1 := M10_1 (g := st.x.gl) h hs s.subs 0 rfl
  have k2 := M10_2 (g := st.x.gl) h hs s.effs 0 rfl
  have hn : (ix (fun x : Lst => x.num == v) s.lsts 0 < 0) = (s.lsts.any (fun x => x.num == v) = false) := ix_neg
  push_cast [Sho.v, fndI', fndE, hn] at h39
  push_cast [Bool.false_or] at k0 k1 k2
  generalize hany : s.lsts.any (fun x => x.num == v) = c at *
  by_cases h2 : 0 < s.lsts.length ∧ s.lsts.length < 8
  ·have h3 : (0 : Int) < s.lsts.length ∧ (s.lsts.length : Int) < 8 := by omega
   have ht : ({ s with lsts := s.lsts ++ [s.lsts.getD (s.lsts.length - 1) default] } : Sho).ok := ⟨h.t, h.c, h.p, h.f, h.g, h.l, ⟨by simp; omega, fun q hq => by
    rcases List.mem_append.1 hq with hq | hq
    ·exact h.k.2 q hq
    ·rw [List.mem_singleton.1 hq, List.getD_eq_getElem?_getD, List.getElem?_eq_getElem (by omega)]
     exact h.k.2 _ (List.getElem_mem _)⟩, h.s, h.e⟩
   have h15 := fun st => up (f15 (st := st) ht)
   rw [twice hs h2.1 h2.2 rfl] at h15
   push_cast [Sho.v, Lst.v, List.map_append, List.map_cons, List.map_nil] at h15
   have hsl : ∀ st, sliceV st 3 (.sl (s.lsts.map Lst.v)) none (some (.int .i64 s.lsts.length)) (some (.int .i64 s.lsts.length)) = some (.clip (s.lsts.map Lst.v)) := fun st => by
    simp [sliceV, fixedV, boundsV, optN, natV, Lst.v, V.cells, List.take_of_length_le]
   have hrm : roomV (s.lsts.length + 1) 40 = true := roomV_lit (by omega) (by omega)
   have hwp : IntKind.i64.wrap ((s.lsts.length : Int) - 1) = ((s.lsts.length - 1 : Nat) : Int) := by rw [iwrap (by omega) (by omega)]; omega
   cases c <;> push_cast [Sho.v, Lst.v, h20, h39, k0, k1, k2, h12, h15, h3, hsl, hrm, hwp]
   all_goals exact dn_eq ⟨by omega, by simp [V.cells]⟩ rfl
  ·have h3 : ¬ ((0 : Int) < s.lsts.length ∧ (s.lsts.length : Int) < 8) := by omega
   cases c <;> push_cast [Sho.v, Lst.v, h20, h39, k0, k1, k2, h12, h3] <;> rfl
end Go.Proofs.YtflbieghmgobgaaGreatDoor

namespace Go.Proofs.YtflbieghmgobgaaGreatDoor
open Go.Sha
set_option maxRecDepth 100000
variable {g : List (Nat × Obj)} {n : Nat}
theorem strip1 {s : Sho} (h : shoC s = 0) : shoC { s with effs := [] } = 0 := by
 obtain ⟨a1, a2, a3, a4, a5, a6, a7, a8, a9⟩ := shoC_parts h
 have hu := shoC_uni h
 exact shoC_of a1 hu a5 a6 a7 a8 rfl
theorem strip2 {s : Sho} (h : shoC s = 0) : shoC { s with subs := [] } = 0 := by
 obtain ⟨a1, a2, a3, a4, a5, a6, a7, a8, a9⟩ := shoC_parts h
 have hu := shoC_uni h
 exact shoC_of a1 hu a5 a6 a7 rfl a9
theorem strip3 {s : Sho} (h : shoC s = 0) : shoC { s with lsts := [] } = 0 := by
 obtain ⟨a1, a2, a3, a4, a5, a6, a7, a8, a9⟩ := shoC_parts h
 have hu := shoC_uni h
 exact shoC_of a1 hu a5 a6 rfl a8 a9
theorem strip4 {s : Sho} (h : shoC s = 0) : shoC { s with pals := [] } = 0 := by
 obtain ⟨a1, a2, a3, a4, a5, a6, a7, a8, a9⟩ := shoC_parts h
 have hu := shoC_uni h
 exact shoC_of a1 hu a5 rfl a7 a8 a9
theorem strip5 {s : Sho} (h : shoC s = 0) : shoC { s with grps := [] } = 0 := by
 obtain ⟨a1, a2, a3, a4, a5, a6, a7, a8, a9⟩ := shoC_parts h
 have hu := shoC_uni h
 exact shoC_of a1 hu rfl a6 a7 a8 a9
theorem strip6 {s : Sho} (h : shoC s = 0) : shoC { s with title := [] } = 0 := by
 obtain ⟨a1, a2, a3, a4, a5, a6, a7, a8, a9⟩ := shoC_parts h
 have hu := shoC_uni h
 exact shoC_of rfl hu a5 a6 a7 a8 a9
theorem strip7 {s : Sho} (h : shoC s = 0) : shoC { s with fixts := [] } = 0 := by
 obtain ⟨a1, a2, a3, a4, a5, a6, a7, a8, a9⟩ := shoC_parts h
 have : ¬ 32 < (s.profs.length : Int) := by have := (fix_ok a4).1; omega
 exact shoC_of a1 (by simp [uniC, a2, a3, fixCR, this, fixR]) a5 a6 a7 a8 a9
def bare (s : Sho) : Sho := ⟨[], s.curves, s.profs, s.fixts, [], [], [], [], []⟩
theorem bare_par {s : Sho} (h : shoC s = 0) : shoC (bare s) = 0 ∧ parS (bare s) = parS s := by
 have h2 : shoC (bare s) = 0 := strip6 (strip5 (strip4 (strip3 (strip2 (strip1 h)))))
 exact ⟨h2, by rw [parS, if_pos h2, parS, if_pos h]; rfl⟩
theorem none_par {s : Sho} (h : s.fixts = []) : parS s = [] := by
 unfold parS
 split
 ·rw [parP, keyP, h]; exact List.mergeSort_nil
 ·rfl
theorem l6 {s : Sho} (h : s.ok) : run Tryz.prog HH2 6 [s.v] st0 = some (.ret (.bool true), st0) := by
 obtain ⟨b, hb, h20⟩ := g20 h
 have h12 := fun st => g12 (st := st)
 push_cast [Sho.v] at h20
 rw [run_shut F6 rfl rfl (by simp)]
 cases b
 ·push_cast [Sho.v, h20, h12]
 ·have hs := hb rfl
  have z0 : ∀ {α β : Type} (f : α → β), ([] : List α).map f = [] := fun _ => rfl
  have zl : (0 : Nat) < 140737488355328 := by decide
  have ok : ∀ (t : Sho), t.ok → shoC t = 0 → ∀ st, run Tryz.prog HH2 15 [t.v] st = some (.ret (.int .i64 0), st) := fun t ht h0 st => by have := up (f15 (st := st) ht); rwa [h0] at this
  have e1 := ok { s with effs := [] } ⟨h.t, h.c, h.p, h.f, h.g, h.l, h.k, h.s, ⟨zl, by simp⟩⟩ (strip1 hs)
  have e2 := ok { s with effs := [], subs := [] } ⟨h.t, h.c, h.p, h.f, h.g, h.l, h.k, ⟨zl, by simp⟩, ⟨zl, by simp⟩⟩ (strip2 (strip1 hs))
  have e3 := ok { s with effs := [], subs := [], lsts := [] } ⟨h.t, h.c, h.p, h.f, h.g, h.l, ⟨zl, by simp⟩, ⟨zl, by simp⟩, ⟨zl, by simp⟩⟩ (strip3 (strip2 (strip1 hs)))
  have e4 := ok { s with effs := [], subs := [], lsts := [], pals := [] } ⟨h.t, h.c, h.p, h.f, h.g, ⟨zl, by simp⟩, ⟨zl, by simp⟩, ⟨zl, by simp⟩, ⟨zl, by simp⟩⟩ (strip4 (strip3 (strip2 (strip1 hs))))
  have e5 := ok { s with effs := [], subs := [], lsts := [], pals := [], grps := [] } ⟨h.t, h.c, h.p, h.f, ⟨zl, by simp⟩, ⟨zl, by simp⟩, ⟨zl, by simp⟩, ⟨zl, by simp⟩, ⟨zl, by simp⟩⟩ (strip5 (strip4 (strip3 (strip2 (strip1 hs)))))
  have ho : (bare s).ok := ⟨zl, h.c, h.p, h.f, ⟨zl, by simp [bare]⟩, ⟨zl, by simp [bare]⟩, ⟨zl, by simp [bare]⟩, ⟨zl, by simp [bare]⟩, ⟨zl, by simp [bare]⟩⟩
  have e6 := ok (bare s) ho (bare_par hs).1
  have h13 := fun st => f13 (st := st) h
  have b13 := fun st => f13 (st := st) ho
  rw [(bare_par hs).1, (bare_par hs).2] at b13
  rw [hs] at h13
  have hn : (⟨[], s.curves, s.profs, [], [], [], [], [], []⟩ : Sho).ok := ⟨zl, h.c, h.p, ⟨zl, by simp⟩, ⟨zl, by simp⟩, ⟨zl, by simp⟩, ⟨zl, by simp⟩, ⟨zl, by simp⟩, ⟨zl, by simp⟩⟩
  have n13 := fun st => f13 (st := st) hn
  rw [show shoC ⟨[], s.curves, s.profs, [], [], [], [], [], []⟩ = 0 from strip7 (bare_par hs).1, none_par rfl] at n13
  have e8 := ok ⟨[], [], [], [], [], [], [], [], []⟩ ⟨zl, ⟨zl, by simp⟩, ⟨zl, by simp⟩, ⟨zl, by simp⟩, ⟨zl, by simp⟩, ⟨zl, by simp⟩, ⟨zl, by simp⟩, ⟨zl, by simp⟩, ⟨zl, by simp⟩⟩ (by kernel_rfl)
  have h17 := fun st => up (f17 (st := st) (l := parS s) parS_len)
  generalize parS s = l at *
  push_cast [Sho.v, bare, List.map_nil, Prm.v] at e1 e2 e3 e4 e5 e6 e8 h13 b13 n13 h17
  push_cast [Sho.v, Prm.v, h20, h12, h13, b13, n13, h17, e1, e2, e3, e4, e5, e6, e8, runL_of B6_0.eq_1, (fun (a0 : V) (st : St) (h : V.bdL 0 [a0] = false) => run_open (P := Tryz.prog) (H := HH2) (args := [a0]) (st := st) F25 rfl rfl h), (fun (a0 : V) (st : St) (h : V.bdL 0 [a0] = false) => run_open (P := Tryz.prog) (H := HH2) (args := [a0]) (st := st) F26 rfl rfl h), (fun (a0 : V) (st : St) (h : V.bdL 0 [a0] = false) => run_open (P := Tryz.prog) (H := HH2) (args := [a0]) (st := st) F27 rfl rfl h), (fun (a0 : V) (st : St) (h : V.bdL 0 [a0] = false) => run_open (P := Tryz.prog) (H := HH2) (args := [a0]) (st := st) F28 rfl rfl h), (fun (a0 : V) (st : St) (h : V.bdL 0 [a0] = false) => run_open (P := Tryz.prog) (H := HH2) (args := [a0]) (st := st) F29 rfl rfl h), (fun (a0 : V) (st : St) (h : V.bdL 0 [a0] = false) => run_open (P := Tryz.prog) (H := HH2) (args := [a0]) (st := st) F30 rfl rfl h)]
end Go.Proofs.YtflbieghmgobgaaGreatDoor

namespace Go.Proofs.YtflbieghmgobgaaGreatDoor
open Go.Sha
set_option maxRecDepth 100000
variable {g : List (Nat × Obj)} {n : Nat}
theorem palsR_rng {l : List Pal} : ∀ {r : List Pal} {j : Nat}, palsR l r j = 0 → ∀ x ∈ r, 1 ≤ x.num ∧ x.num ≤ 1048576
 | [], _, _, x, hx => by simp at hx
 | q :: r, j, h, x, hx => by
  rw [palsR] at h
  repeat' split at h
  all_goals first | cases h | skip
  ·rcases List.mem_cons.1 hx with rfl | hx
   ·omega
   ·exact palsR_rng h x hx
  ·rename_i a; exact absurd h a
theorem pal_pos {l : List Pal} (h : palsCR l = 0) : palF l (-1) = none := by
 unfold palsCR at h
 split at h
 ·cases h
 ·refine List.find?_eq_none.2 fun x hx => ?_
  have := palsR_rng h x hx
  simp; omega
theorem lev_home {s : Sho} {q : Prm} (hs : shoC s = 0) (hq : q ∈ parP s) : levE s q ⟨-1, 0⟩ = 0 ∧ levV s q ⟨-1, 0⟩ = (ftrP s q).home := by
 obtain ⟨p1, p2, p3, p4, p5⟩ := par_ok hs hq
 have h0 : levE s q ⟨-1, 0⟩ = 0 := by rw [levE, if_neg (by simpa using hs), if_neg (by decide), p1]
 refine ⟨h0, ?_⟩
 rw [levV, if_pos h0, lvV, if_neg (by decide), hueV, pal_pos (shoC_parts hs).2.2.2.2.2.1, (ftr_eq (s := s) (p := q)).1, ftrR, if_pos p2]
 rfl
theorem M5_0 {s : Sho} (h0 : s.ok) (hs : shoC s = 0) : ∀ r j, (parP s).drop j = r → runL Tryz.prog HH2 [2, 5, 51, 52, 53] n B5_0 [(2, .ep s.v 0), (5, .sl ((parP s).map Prm.v)), (51, .sl ((parP s).map Prm.v)), (52, .int .i64 (parP s).length), (53, .int .i64 j)] (stN g n) = some (.exit 0, [], stN g n) := by
 have hl : (parP s).length < 140737488355328 := by have := parS_len (s := s); rwa [parS, if_pos hs] at this
 refine drop_ind (fun j h => ?_) (fun q r j h hx hd ih => ?_)
 all_goals rw [runL_of B5_0.eq_1]
 ·have h1 : ¬ (j : Int) < (parP s).length := by omega
  push_cast [h1, Sho.v, Prm.v]
 ·have h1 : (j : Int) < (parP s).length := by omega
  have hw := iw1 (j := j) (by omega)
  have hq := mem_at hd
  obtain ⟨p1, p2, p3, p4, p5⟩ := par_ok hs hq
  obtain ⟨p6, p7⟩ := lev_home hs hq
  have h22 := fun st => up (f22' (p := q) (st := st) h0)
  have h24 := fun st => up (f24 (p := q) (st := st) h0)
  have h18 := fun st => up (f18 (p := q) (v := ⟨-1, 0⟩) (st := st) h0)
  rw [p2, p3] at h22 h24
  rw [p6, p7] at h18
  obtain ⟨l1, l2⟩ := p5
  have hb : 0 < (j : Int) → ((parP s).getD (j - 1) default).chan < q.chan ∨ ((parP s).getD (j - 1) default).chan = q.chan ∧ ((parP s).getD (j - 1) default).attr < q.attr := fun hj => by
   have hp := parP_ok (s := s) |>.1
   have hj1 : j - 1 < (parP s).length := by omega
   have := List.pairwise_iff_getElem.1 hp (j - 1) j hj1 (by omega) (by omega)
   rw [befP_iff] at this
   have e1 : (parP s).getD (j - 1) default = (parP s)[j - 1] := by rw [List.getD_eq_getElem?_getD, List.getElem?_eq_getElem hj1]; rfl
   have e2 : (parP s)[j]'(by omega) = q := by have := drop_get hd; rw [List.getElem?_eq_getElem (by omega)] at this; exact Option.some.inj this
   rw [e2] at this
   rw [e1]; exact this
  generalize ftrP s q = f at *
  have a1 : ¬ f.home < 0 := by omega
  have a2 : ¬ 65535 < f.home := by omega
  push_cast [Sho.v, Prm.v, Val.v, Ftr.v] at h22 h24 h18
  push_cast [h1, hw, hx, Sho.v, Prm.v, Val.v, Ftr.v, h22, h24, h18, p4, a1, a2, iwrap_pred (j := j) (by omega)] at ih ⊢
  refine dn_eq (fun hj => ⟨by omega, fun _ => ⟨by omega, fun _ => by omega⟩⟩) ?_
  rw [if_neg (by rintro ⟨hj, h⟩; have := hb hj; omega)]
  exact ih
theorem l5 {s : Sho} {p : Prm} (h : s.ok) {st : St} : run Tryz.prog HH2 5 [s.v, p.v] st = some (.ret (.bool true), st) := by
 obtain ⟨b, hb, h20⟩ := g20 h
 have h12 := fun st => g12 (st := st)
 have h21 := fun st => up (f21 (x := p) (st := st))
 have h13 := fun st => f13 (st := st) h
 have h22 := fun st => up (f22' (p := p) (st := st) h)
 have h23 := fun st => up (f23 (l := parS s) (p := p) (st := st) parS_len)
 push_cast [Sho.v] at h20
 rw [run_shut F5 rfl rfl (by simp)]
 cases b
 ·push_cast [Sho.v, Prm.v] at h21
  push_cast [Sho.v, Prm.v, h20, h21, h12]
 ·have hs := hb rfl
  by_cases hp : prmC 1 p = 0
  ·have hE : ftrE s p = 0 := by rw [ftrE, if_neg (by simpa using hs), hp]
   have hc : (parS s).contains p = okP s p := by
    rw [(ftr_eq (s := s) (p := p)).2, okR, if_pos hE, parS, if_pos hs, Bool.eq_iff_iff, own_mem hs]; simp
   have k0 := fun n => M5_0 (g := st.x.gl) (n := n) h hs (parP s) 0 rfl
   rw [hE] at h22
   rw [hc] at h23
   rw [hp] at h21
   rw [hs] at h13
   rw [parS, if_pos hs] at h13 h23
   push_cast [Sho.v, Prm.v, Ftr.v] at h13 h21 h22 h23 k0
   push_cast [Sho.v, Prm.v, Ftr.v, h20, h21, h12, h13, h22, h23, k0]
  ·have hp2 : ¬ prmC 1 p = 0 := hp
   push_cast [Sho.v, Prm.v] at h21
   push_cast [Sho.v, Prm.v, h20, h21, h12, hp2]
theorem huesR_lvl {l : List Hue} : ∀ {r : List Hue} {j : Nat}, huesR l r j = 0 → ∀ x ∈ r, lvl x.lev
 | [], _, _, x, hx => by simp at hx
 | q :: r, j, h, x, hx => by
  rw [huesR] at h
  repeat' split at h
  all_goals first | cases h | skip
  rename_i a _
  rcases List.mem_cons.1 hx with rfl | hx
  ·exact Classical.not_not.1 fun h => a (.inr (.inr (.inr (.inr h))))
  ·exact huesR_lvl h x hx
theorem palsR_hue {l : List Pal} : ∀ {r : List Pal} {j : Nat}, palsR l r j = 0 → ∀ x ∈ r, hueLR x.hues = 0
 | [], _, _, x, hx => by simp at hx
 | q :: r, j, h, x, hx => by
  rw [palsR] at h
  repeat' split at h
  all_goals first | cases h | skip
  ·rename_i a
   rcases List.mem_cons.1 hx with rfl | hx
   ·exact a
   ·exact palsR_hue h x hx
  ·rename_i a; exact absurd h a
theorem hue_lvl {l : List Pal} {v : Int} {p : Prm} {x : Int} (h : palsCR l = 0) (hx : hueV l v p = some x) : lvl x := by
 unfold palsCR at h
 split at h
 ·cases h
 ·unfold hueV at hx
  cases hp : palF l v with
  | none => rw [hp] at hx; cases hx
  | some y =>
   rw [hp, Option.bind_some] at hx
   obtain ⟨z, hz, rfl⟩ := Option.map_eq_some_iff.1 hx
   have hy := palsR_hue h y (List.mem_of_find?_eq_some hp)
   unfold hueLR at hy
   split at hy
   ·cases hy
   ·refine huesR_lvl hy z ?_
    unfold hueF at hz
    cases h1 : y.hues.find? (fun x => decide (x.chan = p.chan ∧ x.attr = p.attr)) with
    | some w => rw [h1] at hz; cases hz; exact List.mem_of_find?_eq_some h1
    | none => rw [h1] at hz; exact List.mem_of_find?_eq_some hz
theorem lev_ok {s : Sho} {p : Prm} {v : Val} (hs : shoC s = 0) (hp : prmC 1 p = 0) (hv : valC v = 0) : levE s p v = 0 ∧ lvl (levV s p v) ∧ (v.pal = 0 → levV s p v = v.lev) ∧
  (s.pals.any (fun x => x.num == v.pal) = false → ¬ v.pal = 0 → levV s p v = (ftrP s p).home) := by
 have h0 : levE s p v = 0 := by rw [levE, if_neg (by simpa using hs), if_neg (by simpa using hv), hp]
 have hE : ftrE s p = 0 := by rw [ftrE, if_neg (by simpa using hs), hp]
 have hh := own_home (p := p) hs
 have e1 : (ftrP s p).home = ((ownR s p).getD F0).home := by rw [(ftr_eq (s := s) (p := p)).1, ftrR, if_pos hE]
 refine ⟨h0, ?_, fun h => by rw [levV, if_pos h0, lvV, if_pos h], fun h h2 => ?_⟩
 ·rw [levV, if_pos h0, lvV]
  split
  ·rename_i h; rcases valC_ok hv with h2 | h2
   ·exact h2.2
   ·exact absurd h h2.2.1
  ·cases h : hueV s.pals v.pal p with
   | none => exact hh
   | some x => exact hue_lvl (shoC_parts hs).2.2.2.2.2.1 h
 ·have : palF s.pals v.pal = none := by
   refine List.find?_eq_none.2 fun x hx => ?_
   have := List.any_eq_false.1 h x hx
   simpa using this
  rw [levV, if_pos h0, lvV, if_neg h2, hueV, this, e1]; rfl
theorem l7 {s : Sho} {p : Prm} {v : Val} (h : s.ok) {st : St} : run Tryz.prog HH2 7 [s.v, p.v, v.v] st = some (.ret (.bool true), st) := by
 obtain ⟨b, hb, h20⟩ := g20 h
 have h12 := fun st => g12 (st := st)
 have h21 := fun st => up (f21 (x := p) (st := st))
 have h31 := fun st => up (f31 (x := v) (st := st))
 have h18 := fun st => up (f18 (p := p) (v := v) (st := st) h)
 have h24 := fun st => up (f24 (p := p) (st := st) h)
 have h32 := fun st => up (f32 (l := s.pals) (v := v) (st := st) h.l.1)
 push_cast [Sho.v] at h20
 push_cast [Sho.v, Prm.v] at h21
 push_cast [Sho.v, Val.v] at h31
 rw [run_shut F7 rfl rfl (by simp)]
 cases b
 ·push_cast [Sho.v, Prm.v, Val.v, h20, h21, h12]
 ·have hs := hb rfl
  by_cases hp : prmC 1 p = 0
  ·by_cases hv : valC v = 0
   ·have hE : ftrE s p = 0 := by rw [ftrE, if_neg (by simpa using hs), hp]
    obtain ⟨q0, ⟨q1, q2⟩, q3, q4⟩ := lev_ok hs hp hv
    have ht : ({ s with pals := [] } : Sho).ok := ⟨h.t, h.c, h.p, h.f, h.g, ⟨by simp, by simp⟩, h.k, h.s, h.e⟩
    obtain ⟨r0, ⟨r1, r2⟩, r3, r4⟩ := lev_ok (strip4 hs) hp hv
    have r4 := r4 rfl
    have e1 : (ftrP { s with pals := [] } p).home = (ftrP s p).home := by
     rw [(ftr_eq (p := p)).1, (ftr_eq (p := p)).1, ftrR, ftrR, if_pos hE, if_pos (show ftrE { s with pals := [] } p = 0 by rw [ftrE, if_neg (by simpa using strip4 hs), hp])]
     rfl
    rw [e1] at r4
    have k18 := fun st => up (f18 (p := p) (v := v) (st := st) ht)
    rw [q0] at h18
    rw [r0] at k18
    rw [hE] at h24
    generalize levV s p v = a at *
    generalize levV { s with pals := [] } p v = b at *
    generalize ftrP s p = f at *
    generalize s.pals.any (fun x => x.num == v.pal) = c at *
    have a1 : ¬ a < 0 := by omega
    have a2 : ¬ 65535 < a := by omega
    push_cast [Sho.v, Prm.v, Val.v, List.map_nil] at h18 h24 h32 k18
    push_cast [Sho.v, Prm.v, Val.v, h20, h21, h31, h12, h18, h24, h32, k18, hp, hv, a1, a2]
    by_cases hz : v.pal = 0
    ·have := q3 hz; have := r3 hz
     simp_all
    ·have := r4 hz
     cases c <;> simp_all
   ·push_cast [Sho.v, Prm.v, Val.v, h20, h21, h31, h12, hp, hv]
  ·push_cast [Sho.v, Prm.v, Val.v, h20, h21, h31, h12, hp]
end Go.Proofs.YtflbieghmgobgaaGreatDoor

namespace Go.Proofs.YtflbieghmgobgaaGreatDoor
open Go.Sha
set_option maxRecDepth 10000
theorem F259 : compF Tryz.prog 259 = some ⟨13, [.tmp 4, .tmp 5, .tmp 6], (.g [.s 4 (.mv (.w [])),
.s 5 (.mv (.w [])),
.k 6 false]
 (.g [.m 7 0,
.m 8 1,
.g' 9 278 7 8,
.j 10 0 9,
.j 11 1 9,
.j 12 2 9,
.m 4 10,
.m 5 11,
.m 6 12]
 (.ret [4, 5, 6])))⟩ := by kernel_rfl
theorem F263 : compF Tryz.prog 263 = some ⟨8, [.tmp 4], (.g [.k 4 false]
 (.g [.m 5 0,
.m 6 1,
.g' 7 281 5 6,
.m 4 7]
 (.ret [4])))⟩ := by kernel_rfl
theorem F279 : compF Tryz.prog 279 = some ⟨9, [.tmp 4], (.g [.k 4 false]
 (.g [.m 5 0,
.m 6 1,
.g' 7 298 5 6,
.v 8 .geq 7 0,
.m 4 8]
 (.ret [4])))⟩ := by kernel_rfl
theorem F278 : compF Tryz.prog 278 = some ⟨23, [.tmp 4, .tmp 5, .tmp 6], (.g [.s 4 (.mv (.w [])),
.s 5 (.mv (.w [])),
.k 6 false]
 (.join [0] (.g [.m 8 0,
.m 9 1,
.g' 10 297 8 9,
.m 7 10]
 (.g [.m 11 7,
.v 12 .geq 11 0]
 (.i 12 (.q (.dreg 12 [.m 13 0,
.m 14 7,
.s 15 (.slices (.t 13) none (some (.t 14))),
.m 16 0,
.m 17 7,
.m 18 1,
.s 19 (.lens (.t 18)),
.b 20 .add 17 19,
.s 21 (.slices (.t 16) (some (.t 20)) none),
.m 4 15,
.m 5 21,
.k 6 true])
 (.ret [4, 5, 6]))
 .skip)))
 (.g [.m 22 0,
.m 4 22,
.s 5 (.mv (.w [])),
.k 6 false]
 (.ret [4, 5, 6]))))⟩ := by kernel_rfl
theorem F281 : compF Tryz.prog 281 = some ⟨21, [.tmp 4], (.g [.k 4 false]
 (.join [4] (.reg [.m 5 0,
.s 6 (.lens (.t 5)),
.m 7 1,
.s 8 (.lens (.t 7)),
.b 9 .geq 6 8,
.m 10 9,
.my 11 0 10,
.my 12 0 10,
.y 13 (.lens (.t 12)) 10,
.my 14 1 10,
.y 15 (.lens (.t 14)) 10,
.by' 16 .sub 13 15 10,
.y 17 (.slices (.t 11) (some (.t 16)) none) 10,
.my 18 1 10,
.by' 19 .eql 17 18 10,
.e 20 10 19,
.m 4 20])
 (.ret [4])))⟩ := by kernel_rfl
theorem F298 : compF Tryz.prog 298 = some ⟨8, [.tmp 4], (.g [.c 4 0]
 (.g [.m 5 0,
.m 6 1,
.s 7 (.f 307 [.t 5, .t 6, (.c (.bool true))]),
.m 4 7]
 (.ret [4])))⟩ := by kernel_rfl
theorem F214 : compF Tryz.prog 214 = some ⟨43, [.tmp 4], (.g [.s 4 (.mv (.w []))]
 (.join [0, 1] (.join [0, 1, 12] (.reg [.m 7 0,
.s 8 (.bin .eql (.t 7) (.w [])),
.m 9 8,
.mx 10 1 9,
.x 11 (.bin .eql (.t 10) (.w [])) 9,
.o 12 9 11])
 (.i 12 (.g [.m 13 0,
.m 4 13]
 (.ret [4]))
 .skip))
 (.join [0, 1] (.join [0, 1, 21] (.reg [.m 14 1,
.s 15 (.lens (.t 14)),
.v 16 .eql 15 1,
.m 17 16,
.my 18 1 17,
.y 19 (.ichr (.t 18) (.i 0)) 17,
.y 20 (.bin .lss (.t 19) (.c (.int .u8 128))) 17,
.e 21 17 20])
 (.i 21 (.q (.dreg 8 [.m 22 0,
.m 23 1,
.s 24 (.ichr (.t 23) (.i 0)),
.g' 25 248 22 24,
.m 26 1,
.s 27 (.ichr (.t 26) (.i 0)),
.g' 28 247 25 27,
.m 4 28])
 (.ret [4]))
 .skip))
 (.join [0, 1] (.g [.m 30 1,
.f 31 249 30,
.m 29 31,
.j 32 0 29,
.j 33 1 29,
.s 5 (.alloc 288 (List.replicate 256 (.bool false))),
.w 256 5 32,
.m 6 33]
 (.z [5] (.g [.m 34 6]
 (.i 34 (.g [.m 35 0,
.g' 36 251 35 5,
.g' 37 250 36 5,
.m 4 37]
 (.ret [4]))
 .skip))))
 (.g [.m 38 0,
.m 39 1,
.g' 40 253 38 39,
.m 41 1,
.g' 42 252 40 41,
.m 4 42]
 (.ret [4]))))))⟩ := by kernel_rfl
def B250_0 : Cd := (.join [0, 1] (.g [.m 5 0,
.s 6 (.lens (.t 5)),
.v 7 .gtr 6 0]
 (.i 7 .skip
 (.exit [0] 0)))
 (.block 1 (.join [0, 1] (.g [.m 8 1,
.m 9 0,
.s 10 (.ichr (.t 9) (.i 0)),
.g' 11 270 8 10,
.z 12 11]
 (.i 12 (.exit [0] 0)
 .skip))
 (.reg [.m 13 0,
.s 14 (.slices (.t 13) (some (.i 1)) none),
.m 0 14]))))
theorem F250 : compF Tryz.prog 250 = some ⟨16, [.tmp 4], (.g [.s 4 (.mv (.w []))]
 (.join [0] (.block 0 (.loop [0, 1] [] B250_0))
 (.g [.m 15 0,
.m 4 15]
 (.ret [4]))))⟩ := by kernel_rfl
def B251_0 : Cd := (.join [0, 1] (.g [.m 5 0,
.s 6 (.lens (.t 5)),
.v 7 .gtr 6 0]
 (.i 7 .skip
 (.exit [0] 0)))
 (.block 1 (.join [0, 1] (.g [.m 8 1,
.m 9 0,
.m 10 0,
.s 11 (.lens (.t 10)),
.v 12 .sub 11 1,
.s 13 (.ichr (.t 9) (.t 12)),
.g' 14 270 8 13,
.z 15 14]
 (.i 15 (.exit [0] 0)
 .skip))
 (.reg [.m 16 0,
.m 17 0,
.s 18 (.lens (.t 17)),
.v 19 .sub 18 1,
.s 20 (.slices (.t 16) none (some (.t 19))),
.m 0 20]))))
theorem F251 : compF Tryz.prog 251 = some ⟨22, [.tmp 4], (.g [.s 4 (.mv (.w []))]
 (.join [0] (.block 0 (.loop [0, 1] [] B251_0))
 (.g [.m 21 0,
.m 4 21]
 (.ret [4]))))⟩ := by kernel_rfl
theorem F270 : compF Tryz.prog 270 = some ⟨10, [.tmp 4], (.g [.k 4 false]
 (.g [.m 5 0,
.m 6 1,
.s 7 (.k 5),
.s 8 (.iadra 256 1 (.t 7) (.t 6)),
.l 9 8,
.m 4 9]
 (.ret [4])))⟩ := by kernel_rfl
end Go.Proofs.YtflbieghmgobgaaGreatDoor

namespace Go.Proofs
open Go.Shelf
def Tryz.laysC172_ren : Go.Shelf.Ren := ⟨fun | 172 => 308 | 244 => 311 | 245 => 312 | 247 => 313 | 279 => 314 | 280 => 315 | 281 => 316 | 282 => 317 | 287 => 318 | 316 => 319 | 171 => 321 | 205 => 320 | 321 => 322 | 322 => 323 | 243 => 324 | 246 => 325 | 283 => 326 | 284 => 327 | 285 => 328 | 286 => 329 | 129 => 141 | 317 => 330 | 318 => 331 | 319 => 332 | 320 => 333 | 337 => 334 | 338 => 335 | n => n, fun | 9 => 9 | 3 => 3 | 75 => 332 | 76 => 333 | 4 => 4 | 5 => 5 | 167 => 338 | 37 => 201 | 0 => 0 | 85 => 339 | 2 => 2 | 168 => 341 | 53 => 198 | 175 => 344 | 46 => 155 | 210 => 348 | 127 => 352 | 145 => 355 | 143 => 353 | 21 => 21 | 171 => 357 | 173 => 359 | 212 => 362 | 51 => 196 | 20 => 20 | 213 => 363 | 232 => 364 | 233 => 365 | 80 => 366 | n => n, fun | 15 => 3 | 16 => 4 | 17 => 5 | 18 => 6 | 19 => 7 | n => n⟩
theorem Tryz.laysC172 : Go.Proofs.LaysC.n172 Tryz.prog Tryz.laysC172_ren := {
 mixed := by kernel_rfl
 f129 := Tryz.func141.trans (congrArg some (by kernel_rfl))
 f171 := Tryz.func321.trans (congrArg some (by kernel_rfl))
 f172 := Tryz.func308.trans (congrArg some (by kernel_rfl))
 f205 := Tryz.func320.trans (congrArg some (by kernel_rfl))
 f243 := Tryz.func324.trans (congrArg some (by kernel_rfl))
 f244 := Tryz.func311.trans (congrArg some (by kernel_rfl))
 f245 := Tryz.func312.trans (congrArg some (by kernel_rfl))
 f246 := Tryz.func325.trans (congrArg some (by kernel_rfl))
 f247 := Tryz.func313.trans (congrArg some (by kernel_rfl))
 f279 := Tryz.func314.trans (congrArg some (by kernel_rfl))
 f280 := Tryz.func315.trans (congrArg some (by kernel_rfl))
 f281 := Tryz.func316.trans (congrArg some (by kernel_rfl))
 f282 := Tryz.func317.trans (congrArg some (by kernel_rfl))
 f283 := Tryz.func326.trans (congrArg some (by kernel_rfl))
 f284 := Tryz.func327.trans (congrArg some (by kernel_rfl))
 f285 := Tryz.func328.trans (congrArg some (by kernel_rfl))
 f286 := Tryz.func329.trans (congrArg some (by kernel_rfl))
 f287 := Tryz.func318.trans (congrArg some (by kernel_rfl))
 f316 := Tryz.func319.trans (congrArg some (by kernel_rfl))
 f317 := Tryz.func330.trans (congrArg some (by kernel_rfl))
 f318 := Tryz.func331.trans (congrArg some (by kernel_rfl))
 f319 := Tryz.func332.trans (congrArg some (by kernel_rfl))
 f320 := Tryz.func333.trans (congrArg some (by kernel_rfl))
 f321 := Tryz.func322.trans (congrArg some (by kernel_rfl))
 f322 := Tryz.func323.trans (congrArg some (by kernel_rfl))
 f337 := Tryz.func334.trans (congrArg some (by kernel_rfl))
 f338 := Tryz.func335.trans (congrArg some (by kernel_rfl))
 t0 := Tryz.underlying0
 a0 := Tryz.isAgg0
 z0 := Tryz.sizeOf0
 v0 := Tryz.zeroValue0
 t2 := Tryz.underlying2
 a2 := Tryz.isAgg2
 z2 := Tryz.sizeOf2
 v2 := Tryz.zeroValue2
 t3 := Tryz.underlying3
 a3 := Tryz.isAgg3
 z3 := Tryz.sizeOf3
 v3 := Tryz.zeroValue3
 t4 := Tryz.underlying4
 a4 := Tryz.isAgg4
 z4 := Tryz.sizeOf4
 v4 := Tryz.zeroValue4
 t5 := Tryz.underlying5
 a5 := Tryz.isAgg5
 z5 := Tryz.sizeOf5
 v5 := Tryz.zeroValue5
 t9 := Tryz.underlying9
 a9 := Tryz.isAgg9
 z9 := Tryz.sizeOf9
 v9 := Tryz.zeroValue9
 t20 := Tryz.underlying20
 a20 := Tryz.isAgg20
 z20 := Tryz.sizeOf20
 v20 := Tryz.zeroValue20
 t21 := Tryz.underlying21
 a21 := Tryz.isAgg21
 z21 := Tryz.sizeOf21
 v21 := Tryz.zeroValue21
 t37 := Tryz.underlying201
 a37 := Tryz.isAgg201
 z37 := Tryz.sizeOf201
 v37 := Tryz.zeroValue201
 t46 := Tryz.underlying155
 a46 := Tryz.isAgg155
 z46 := Tryz.sizeOf155
 v46 := Tryz.zeroValue155
 t51 := Tryz.underlying196
 a51 := Tryz.isAgg196
 z51 := Tryz.sizeOf196
 v51 := Tryz.zeroValue196
 t53 := Tryz.underlying198
 a53 := Tryz.isAgg198
 z53 := Tryz.sizeOf198
 v53 := Tryz.zeroValue198
 t75 := Tryz.underlying332
 a75 := Tryz.isAgg332
 z75 := Tryz.sizeOf332
 v75 := Tryz.zeroValue332
 t76 := Tryz.underlying333
 a76 := Tryz.isAgg333
 z76 := Tryz.sizeOf333
 v76 := Tryz.zeroValue333
 t85 := Tryz.underlying339
 a85 := Tryz.isAgg339
 z85 := Tryz.sizeOf339
 v85 := Tryz.zeroValue339
 t127 := Tryz.underlying352
 a127 := Tryz.isAgg352
 z127 := Tryz.sizeOf352
 v127 := Tryz.zeroValue352
 t143 := Tryz.underlying353
 a143 := Tryz.isAgg353
 z143 := Tryz.sizeOf353
 v143 := Tryz.zeroValue353
 t145 := Tryz.underlying355
 a145 := Tryz.isAgg355
 z145 := Tryz.sizeOf355
 v145 := Tryz.zeroValue355
 t167 := Tryz.underlying338
 a167 := Tryz.isAgg338
 z167 := Tryz.sizeOf338
 v167 := Tryz.zeroValue338
 t168 := Tryz.underlying341
 a168 := Tryz.isAgg341
 z168 := Tryz.sizeOf341
 v168 := Tryz.zeroValue341
 t171 := Tryz.underlying357
 a171 := Tryz.isAgg357
 z171 := Tryz.sizeOf357
 v171 := Tryz.zeroValue357
 t173 := Tryz.underlying359
 a173 := Tryz.isAgg359
 z173 := Tryz.sizeOf359
 v173 := Tryz.zeroValue359
 t175 := Tryz.underlying344
 a175 := Tryz.isAgg344
 z175 := Tryz.sizeOf344
 v175 := Tryz.zeroValue344
 t210 := Tryz.underlying348
 a210 := Tryz.isAgg348
 z210 := Tryz.sizeOf348
 v210 := Tryz.zeroValue348
 t212 := Tryz.underlying362
 a212 := Tryz.isAgg362
 z212 := Tryz.sizeOf362
 v212 := Tryz.zeroValue362
 t213 := Tryz.underlying363
 a213 := Tryz.isAgg363
 z213 := Tryz.sizeOf363
 t232 := Tryz.underlying364
 a232 := Tryz.isAgg364
 z232 := Tryz.sizeOf364
 v232 := Tryz.zeroValue364
 t233 := Tryz.underlying365
 a233 := Tryz.isAgg365
 z233 := Tryz.sizeOf365
 v233 := Tryz.zeroValue365
 g15 := by kernel_rfl
 g16 := by kernel_rfl
 g17 := by kernel_rfl
 g18 := by kernel_rfl
 g19 := by kernel_rfl
 t80 := Tryz.underlying366
 a80 := Tryz.isAgg366
 z80 := Tryz.sizeOf366
 v80 := Tryz.zeroValue366
 i0 := by kernel_rfl
 i2 := by kernel_rfl
 i3 := by kernel_rfl
 i4 := by kernel_rfl
 i5 := by kernel_rfl
 i9 := by kernel_rfl
 i20 := by kernel_rfl
 i21 := by kernel_rfl
 i37 := by kernel_rfl
 i46 := by kernel_rfl
 i51 := by kernel_rfl
 i53 := by kernel_rfl
 i75 := by kernel_rfl
 i76 := by kernel_rfl
 i80 := by kernel_rfl
 i85 := by kernel_rfl
 i127 := by kernel_rfl
 i143 := by kernel_rfl
 i145 := by kernel_rfl
 i167 := by kernel_rfl
 i168 := by kernel_rfl
 i171 := by kernel_rfl
 i173 := by kernel_rfl
 i175 := by kernel_rfl
 i210 := by kernel_rfl
 i212 := by kernel_rfl
 i232 := by kernel_rfl
 i233 := by kernel_rfl
 m15 := by kernel_rfl
 m16 := by kernel_rfl
 m17 := by kernel_rfl
 m18 := by kernel_rfl
 m19 := by kernel_rfl
 c0 := by kernel_rfl
 c2 := by kernel_rfl
 c3 := by kernel_rfl
 c4 := by kernel_rfl
 c5 := by kernel_rfl
 c9 := by kernel_rfl
 c20 := by kernel_rfl
 c21 := by kernel_rfl
 c37 := by kernel_rfl
 c46 := by kernel_rfl
 c51 := by kernel_rfl
 c53 := by kernel_rfl
 c75 := by kernel_rfl
 c76 := by kernel_rfl
 c80 := by kernel_rfl
 c85 := by kernel_rfl
 c127 := by kernel_rfl
 c143 := by kernel_rfl
 c145 := by kernel_rfl
 c167 := by kernel_rfl
 c168 := by kernel_rfl
 c171 := by kernel_rfl
 c173 := by kernel_rfl
 c175 := by kernel_rfl
 c210 := by kernel_rfl
 c212 := by kernel_rfl
 c213 := by kernel_rfl
 c232 := by kernel_rfl
 c233 := by kernel_rfl }
open Go.RowKit in
theorem Tryz.strconv_Atoi_ok (s : ByteArray) (hmax : s.size ≤ 9223372036854775806) (v : Int) (h : Lib.atoiAll s.data.toList = .ok v) (w : World) :
  Calls Tryz.prog 308 #[.string s] w fun e w' => e = .returned (.tuple #[.int .i64 v, .nilIface]) ∧ (w' = w ∨ ∃ t, w' = Lib.bytesWorld w 5 t) := Any.strconv_Atoi_ok Tryz.laysC172 s hmax v h w
def Tryz.lays219_ren : Go.Shelf.Ren := ⟨fun | 219 => 297 | 217 => 305 | 225 => 303 | 224 => 302 | 267 => 306 | 266 => 309 | 314 => 310 | n => n, fun | 9 => 9 | 3 => 3 | 4 => 4 | 5 => 5 | 46 => 155 | 146 => 335 | 51 => 196 | n => n, fun | 1 => 2 | n => n⟩
theorem Tryz.lays219 : Go.Proofs.Lays.n219 Tryz.prog Tryz.lays219_ren := {
 mixed := by kernel_rfl
 f217 := Tryz.func305.trans (congrArg some (by kernel_rfl))
 f219 := Tryz.func297.trans (congrArg some (by kernel_rfl))
 f224 := Tryz.func302.trans (congrArg some (by kernel_rfl))
 f225 := Tryz.func303.trans (congrArg some (by kernel_rfl))
 f266 := Tryz.func309.trans (congrArg some (by kernel_rfl))
 f267 := Tryz.func306.trans (congrArg some (by kernel_rfl))
 f314 := Tryz.func310.trans (congrArg some (by kernel_rfl))
 t3 := Tryz.underlying3
 a3 := Tryz.isAgg3
 z3 := Tryz.sizeOf3
 v3 := Tryz.zeroValue3
 t4 := Tryz.underlying4
 a4 := Tryz.isAgg4
 z4 := Tryz.sizeOf4
 v4 := Tryz.zeroValue4
 t5 := Tryz.underlying5
 a5 := Tryz.isAgg5
 z5 := Tryz.sizeOf5
 v5 := Tryz.zeroValue5
 t9 := Tryz.underlying9
 a9 := Tryz.isAgg9
 z9 := Tryz.sizeOf9
 v9 := Tryz.zeroValue9
 t46 := Tryz.underlying155
 a46 := Tryz.isAgg155
 z46 := Tryz.sizeOf155
 v46 := Tryz.zeroValue155
 t51 := Tryz.underlying196
 a51 := Tryz.isAgg196
 z51 := Tryz.sizeOf196
 v51 := Tryz.zeroValue196
 t146 := Tryz.underlying335
 a146 := Tryz.isAgg335
 z146 := Tryz.sizeOf335
 v146 := Tryz.zeroValue335
 g1 := by kernel_rfl }
open Go.RowKit Go.Lib in
theorem Tryz.stringslite_Index_one (s : ByteArray) (c : UInt8) (w : World) :
  Calls Tryz.prog 297 #[.string s, .string ⟨#[c]⟩] w fun e w' => e = .returned (.int .i64 (Lib.indexByte s.data.toList c)) ∧ w' = w := Any.stringslite_Index_one Tryz.lays219 s c w
def Tryz.lays315_ren : Go.Shelf.Ren := ⟨fun | 315 => 307 | n => n, fun | 9 => 9 | 40 => 315 | 4 => 4 | 3 => 3 | 0 => 0 | 21 => 21 | n => n, fun | n => n⟩
theorem Tryz.lays315 : Go.Proofs.Lays.n315 Tryz.prog Tryz.lays315_ren := {
 mixed := by kernel_rfl
 f315 := Tryz.func307.trans (congrArg some (by kernel_rfl))
 t0 := Tryz.underlying0
 a0 := Tryz.isAgg0
 z0 := Tryz.sizeOf0
 v0 := Tryz.zeroValue0
 t3 := Tryz.underlying3
 a3 := Tryz.isAgg3
 z3 := Tryz.sizeOf3
 v3 := Tryz.zeroValue3
 t4 := Tryz.underlying4
 a4 := Tryz.isAgg4
 z4 := Tryz.sizeOf4
 v4 := Tryz.zeroValue4
 t9 := Tryz.underlying9
 a9 := Tryz.isAgg9
 z9 := Tryz.sizeOf9
 v9 := Tryz.zeroValue9
 t21 := Tryz.underlying21
 a21 := Tryz.isAgg21
 z21 := Tryz.sizeOf21
 v21 := Tryz.zeroValue21
 t40 := Tryz.underlying315
 a40 := Tryz.isAgg315
 z40 := Tryz.sizeOf315
 v40 := Tryz.zeroValue315 }
open Go.RowKit Go.Lib in
theorem Tryz.strings_indexFunc (g : Nat) (lb : Array Value) (eg : ∀ args w, (callFunc g args).run Tryz.prog w = .ok (.enter g args) w) (p : Nat → Bool) (truth : Bool) (s : ByteArray) (w : World) (hp : PredAt Tryz.prog g lb encR p w) :
  Calls Tryz.prog 307 #[.string s, .func (.func g) #[] lb, .bool truth] w fun e w' => e = .returned (.int .i64 (Lib.idxFunc p truth s)) ∧ Below w.heap.size w w' := Any.strings_indexFunc Tryz.lays315 g lb eg p truth s w hp
def Tryz.lays227_ren : Go.Shelf.Ren := ⟨fun | 227 => 249 | n => n, fun | 9 => 9 | 116 => 288 | 4 => 4 | 0 => 0 | 3 => 3 | 5 => 5 | n => n, fun | n => n⟩
theorem Tryz.lays227 : Go.Proofs.Lays.n227 Tryz.prog Tryz.lays227_ren := {
 mixed := by kernel_rfl
 f227 := Tryz.func249.trans (congrArg some (by kernel_rfl))
 t0 := Tryz.underlying0
 a0 := Tryz.isAgg0
 z0 := Tryz.sizeOf0
 v0 := Tryz.zeroValue0
 t3 := Tryz.underlying3
 a3 := Tryz.isAgg3
 z3 := Tryz.sizeOf3
 v3 := Tryz.zeroValue3
 t4 := Tryz.underlying4
 a4 := Tryz.isAgg4
 z4 := Tryz.sizeOf4
 v4 := Tryz.zeroValue4
 t5 := Tryz.underlying5
 a5 := Tryz.isAgg5
 z5 := Tryz.sizeOf5
 v5 := Tryz.zeroValue5
 t9 := Tryz.underlying9
 a9 := Tryz.isAgg9
 z9 := Tryz.sizeOf9
 v9 := Tryz.zeroValue9
 t116 := Tryz.underlying288
 a116 := Tryz.isAgg288
 z116 := Tryz.sizeOf288 }
open Go.RowKit Go.Lib in
theorem Tryz.strings_makeASCIISet (hv116 : ∀ w, (zeroValue 288).run Tryz.prog w = .ok (.agg (Array.replicate 256 (.bool false))) w) (chars : ByteArray) (w : World) (hs : chars.size < 4294967281) (hascii : ∀ (j : Nat) b, chars.data.toList[j]? = some b → b.toNat < 128) :
  Calls Tryz.prog 249 #[.string chars] w fun e w' => e = .returned (.tuple #[.agg (Lib.setCells chars.data.toList), .bool true]) ∧ w' = w.alloc (.cells (Lib.setCells chars.data.toList) 288) := Any.strings_makeASCIISet Tryz.lays227 hv116 (by kernel_rfl) chars w hs hascii
def Tryz.laysSort_ren : Go.Shelf.Ren := ⟨fun | 6 => 56 | 15 => 95 | 14 => 94 | 28 => 140 | 29 => 141 | 20 => 132 | 21 => 133 | 22 => 134 | 23 => 135 | 24 => 136 | 25 => 137 | 26 => 138 | 27 => 139 | 46 => 175 | 47 => 176 | 48 => 177 | 49 => 178 | 50 => 179 | 57 => 213 | n => n, fun | 22 => 34 | 24 => 44 | 25 => 108 | 3 => 3 | 39 => 155 | 0 => 0 | 53 => 196 | 55 => 198 | 4 => 4 | 46 => 190 | 45 => 189 | 50 => 173 | 5 => 5 | 9 => 9 | 66 => 230 | 70 => 234 | 76 => 263 | 77 => 49 | n => n, fun | n => n⟩
theorem Tryz.laysSort : Go.Proofs.SlLaysF0.n6 Tryz.prog Tryz.laysSort_ren := {
 mixed := by kernel_rfl
 f6 := ⟨Tryz.f56.name, by decide, Tryz.func56.trans (congrArg some (by kernel_rfl))⟩
 f14 := ⟨Tryz.f94.name, by decide, Tryz.func94.trans (congrArg some (by kernel_rfl))⟩
 f15 := Tryz.func95.trans (congrArg some (by kernel_rfl))
 f20 := ⟨Tryz.f132.name, by decide, Tryz.func132.trans (congrArg some (by kernel_rfl))⟩
 f21 := ⟨Tryz.f133.name, by decide, Tryz.func133.trans (congrArg some (by kernel_rfl))⟩
 f22 := ⟨Tryz.f134.name, by decide, Tryz.func134.trans (congrArg some (by kernel_rfl))⟩
 f23 := ⟨Tryz.f135.name, by decide, Tryz.func135.trans (congrArg some (by kernel_rfl))⟩
 f24 := ⟨Tryz.f136.name, by decide, Tryz.func136.trans (congrArg some (by kernel_rfl))⟩
 f25 := ⟨Tryz.f137.name, by decide, Tryz.func137.trans (congrArg some (by kernel_rfl))⟩
 f26 := ⟨Tryz.f138.name, by decide, Tryz.func138.trans (congrArg some (by kernel_rfl))⟩
 f27 := ⟨Tryz.f139.name, by decide, Tryz.func139.trans (congrArg some (by kernel_rfl))⟩
 f28 := Tryz.func140.trans (congrArg some (by kernel_rfl))
 f29 := Tryz.func141.trans (congrArg some (by kernel_rfl))
 f46 := ⟨Tryz.f175.name, by decide, Tryz.func175.trans (congrArg some (by kernel_rfl))⟩
 f47 := Tryz.func176.trans (congrArg some (by kernel_rfl))
 f48 := Tryz.func177.trans (congrArg some (by kernel_rfl))
 f49 := ⟨Tryz.f178.name, by decide, Tryz.func178.trans (congrArg some (by kernel_rfl))⟩
 f50 := ⟨Tryz.f179.name, by decide, Tryz.func179.trans (congrArg some (by kernel_rfl))⟩
 f57 := ⟨Tryz.f213.name, by decide, Tryz.func213.trans (congrArg some (by kernel_rfl))⟩
 t0 := Tryz.underlying0
 a0 := Tryz.isAgg0
 z0 := Tryz.sizeOf0
 v0 := Tryz.zeroValue0
 t3 := Tryz.underlying3
 a3 := Tryz.isAgg3
 z3 := Tryz.sizeOf3
 v3 := Tryz.zeroValue3
 t4 := Tryz.underlying4
 a4 := Tryz.isAgg4
 z4 := Tryz.sizeOf4
 v4 := Tryz.zeroValue4
 t5 := Tryz.underlying5
 a5 := Tryz.isAgg5
 z5 := Tryz.sizeOf5
 v5 := Tryz.zeroValue5
 t9 := Tryz.underlying9
 a9 := Tryz.isAgg9
 z9 := Tryz.sizeOf9
 v9 := Tryz.zeroValue9
 t22 := Tryz.underlying34
 a22 := Tryz.isAgg34
 z22 := Tryz.sizeOf34
 v22 := Tryz.zeroValue34
 t25 := Tryz.underlying108
 a25 := Tryz.isAgg108
 z25 := Tryz.sizeOf108
 v25 := Tryz.zeroValue108
 t39 := Tryz.underlying155
 a39 := Tryz.isAgg155
 z39 := Tryz.sizeOf155
 v39 := Tryz.zeroValue155
 t45 := Tryz.underlying189
 a45 := Tryz.isAgg189
 z45 := Tryz.sizeOf189
 v45 := Tryz.zeroValue189
 t46 := Tryz.underlying190
 a46 := Tryz.isAgg190
 z46 := Tryz.sizeOf190
 v46 := Tryz.zeroValue190
 t50 := Tryz.underlying173
 a50 := Tryz.isAgg173
 z50 := Tryz.sizeOf173
 v50 := Tryz.zeroValue173
 t53 := Tryz.underlying196
 a53 := Tryz.isAgg196
 z53 := Tryz.sizeOf196
 v53 := Tryz.zeroValue196
 t55 := Tryz.underlying198
 a55 := Tryz.isAgg198
 z55 := Tryz.sizeOf198
 v55 := Tryz.zeroValue198
 t66 := Tryz.underlying230
 a66 := Tryz.isAgg230
 z66 := Tryz.sizeOf230
 v66 := Tryz.zeroValue230
 t70 := Tryz.underlying234
 a70 := Tryz.isAgg234
 z70 := Tryz.sizeOf234
 v70 := Tryz.zeroValue234
 t76 := Tryz.underlying263
 a76 := Tryz.isAgg263
 z76 := Tryz.sizeOf263
 v76 := Tryz.zeroValue263
 t77 := Tryz.underlying49
 a77 := Tryz.isAgg49
 z77 := Tryz.sizeOf49
 v77 := Tryz.zeroValue49 }
open Go.RowKit Go.Sort in
theorem Tryz.sort_none (p : Option Addr) (cap : Nat) (fv : Value) (w : World) : Calls Tryz.prog 56 #[.slice p 0 cap, fv] w fun e w' => e = .returned (.tuple #[]) ∧ w' = w := AnyF.slices_SortFunc_none Tryz.laysSort p cap fv w
open Go.RowKit Go.Sort in
theorem Tryz.sort_total {α : Type} [Inhabited α] (aE : ∀ w, (isAgg 44).run Tryz.prog w = .ok true w) (zE : ∀ w, (Go.sizeOf 44).run Tryz.prog w = .ok 2 w) (enc : α → List Value) (hk : ∀ x, (enc x).length = 2) (h1 : ∀ x, ∀ v ∈ enc x, v.oneCell' = true) (cf : α → α → Int) (hO : SWO (ltOf cf)) (hT : ∀ x y, (ltOf cf) x y = false → (ltOf cf) y x = false → x = y) (g : Nat) (eg : ∀ args w, (callFunc g args).run Tryz.prog w = .ok (.enter g args) w) (blk off cap : Nat) (d : Array α) (w : World)
  (hcmp : CmpLays Tryz.prog g #[] enc 2 cf blk off d.size w) (hH : HoldsK enc 2 w blk off d) (hblk : blk < w.heap.size) (hsz : d.size < 4611686018427387904) :
  Calls Tryz.prog 56 #[.slice (some ⟨blk, off, none⟩) d.size cap, .func (.func g) #[] #[]] w fun e w' => e = .returned (.tuple #[]) ∧ ∃ n os, w' = sortWorldK enc 2 w blk off n (d.toList.mergeSort fun x y => !(ltOf cf) y x).toArray os := AnyQ.slices_SortFunc_total Tryz.laysSort 2 aE zE enc hk h1 cf hO g #[] blk off cap d w eg hcmp hH hblk hsz hT
end Go.Proofs

namespace Go.Proofs.YtflbieghmgobgaaGreatDoor
open Go.Sha Go.RowKit
set_option maxRecDepth 100000
variable {g : List (Nat × Obj)} {n : Nat}
def othR (r : Nat) : Bool := decide (r < 48) || decide (57 < r)
def setV : List V := (List.range 256).map fun n => .bool (nmW.contains n.toUInt8)
def q297 : List V → Option VRes
 | [.str s, .str [c]] => some (.ret (.int .i64 (Lib.indexByte s c)))
 | _ => none
def q249 : List V → Option VRes
 | [.str t] => if t = nmW then some (.ret (.tup [.agg setV, .bool true])) else none
 | _ => none
def q307 : List V → Option VRes
 | [.str s, .fn (.func 280) [] [], .bool true] => some (.ret (.int .i64 (Lib.idxFunc othR true ⟨s.toArray⟩)))
 | _ => none
def HL0 : EvF := ⟨[], fun f args st => (bif Nat.beq f 297 then q297 args else bif Nat.beq f 249 then q249 args else bif Nat.beq f 307 then q307 args else none).map fun r => (r, st)⟩
@[push_cast] theorem HL0_raw : HL0.raw = [] := @_root_.id (_ = _) rfl
theorem k297 {s : List UInt8} {c : UInt8} {st : St} : run Tryz.prog HL0 297 [.str s, .str [c]] st = some (.ret (.int .i64 (Lib.indexByte s c)), st) := run_H rfl
theorem k249 {st : St} : run Tryz.prog HL0 249 [.str nmW] st = some (.ret (.tup [.agg setV, .bool true]), st) := run_H rfl
theorem k307 {s : List UInt8} {st : St} : run Tryz.prog HL0 307 [.str s, .fn (.func 280) [] [], .bool true] st = some (.ret (.int .i64 (Lib.idxFunc othR true ⟨s.toArray⟩)), st) := run_H rfl
theorem idx_tw {c : UInt8} : ∀ {s : List UInt8}, Lib.indexByte s c = if s.contains c = true then ((s.takeWhile (· != c)).length : Int) else -1
 | [] => rfl
 | b :: s => by
  have ih := idx_tw (c := c) (s := s)
  rw [Lib.indexByte, ih]
  by_cases h : b = c
  ·subst h; simp
  ·have h2 : (b == c) = false := by simpa using h
   have h3 : (b != c) = true := by simpa using h
   rw [h2, List.takeWhile_cons, if_pos h3, List.contains_cons, show (c == b) = false by simpa using fun e => h e.symm, Bool.false_or, List.length_cons]
   cases s.contains c
   ·rfl
   ·simp only [if_true]
    rw [if_neg (by simp), if_neg (by simp)]; omega
theorem drop_tw {p : UInt8 → Bool} {s : List UInt8} : s.drop ((s.takeWhile p).length + 1) = (s.dropWhile p).drop 1 := by rw [← List.drop_drop, drop_w]
theorem tw_none {c : UInt8} : ∀ {s : List UInt8}, s.contains c = false → s.takeWhile (· != c) = s ∧ s.dropWhile (· != c) = []
 | [], _ => ⟨rfl, rfl⟩
 | b :: r, h => by
  have hb : (b != c) = true := by simp at h ⊢; exact fun e => h.1 e.symm
  have hr : r.contains c = false := by simp at h ⊢; exact h.2
  have := tw_none hr
  simp only [List.takeWhile_cons, List.dropWhile_cons, hb, if_true]
  exact ⟨by rw [this.1], this.2⟩
theorem k278 {s : List UInt8} {c : UInt8} (hl : s.length < 140737488355328) {st : St} : run Tryz.prog HL0 278 [.str s, .str [c]] st = some (.ret (.tup [.str (s.takeWhile (· != c)), .str ((s.dropWhile (· != c)).drop 1), .bool (s.contains c)]), st) := by
 have hi := idx_tw (c := c) (s := s)
 have hle := (List.takeWhile_sublist (· != c) (l := s)).length_le
 rw [run_shut F278 rfl rfl rfl]
 cases h : s.contains c with
 | true =>
  have hlt : (s.takeWhile (· != c)).length < s.length := by
   rcases Nat.lt_or_ge (s.takeWhile (· != c)).length s.length with h2 | h2
   ·exact h2
   ·have e : s.takeWhile (· != c) = s := (List.takeWhile_sublist _).eq_of_length (by omega)
    have := List.all_takeWhile (p := (· != c)) (l := s)
    rw [e, List.all_eq_true] at this
    have := this c (by simpa using h)
    simp at this
  rw [h, if_pos rfl] at hi
  have hd := drop_tw (p := (· != c)) (s := s)
  have ht := take_w (p := (· != c)) (s := s)
  generalize s.takeWhile (· != c) = a at *
  have hw : IntKind.i64.wrap ((a.length : Int) + 1) = ((a.length + 1 : Nat) : Int) := iwrap (by omega) (by omega)
  push_cast [k297, hi, hw, ht]
  exact dn_eq (by omega) (by rw [List.take_length, show ((a.length : Int) + 1).toNat = a.length + 1 by omega, hd])
 | false =>
  rw [h, if_neg (by simp)] at hi
  obtain ⟨e1, e2⟩ := tw_none h
  rw [e1, e2]
  push_cast [k297, hi]
theorem k259 {s : List UInt8} {c : UInt8} (hl : s.length < 140737488355328) {st : St} : run Tryz.prog HL0 259 [.str s, .str [c]] st = some (.ret (.tup [.str (s.takeWhile (· != c)), .str ((s.dropWhile (· != c)).drop 1), .bool (s.contains c)]), st) := by
 have h := fun (st : St) => k278 (c := c) (st := st) hl
 rw [run_shut F259 rfl rfl rfl]
 push_cast [h]
theorem k263 {s t : List UInt8} (hl : s.length < 140737488355328) (ht : t.length ≤ s.length + 1000) {st : St} : run Tryz.prog HL0 263 [.str s, .str t] st = some (.ret (.bool (t.isSuffixOf s)), st) := by
 have h : ∀ st, run Tryz.prog HL0 281 [.str s, .str t] st = some (.ret (.bool (t.isSuffixOf s)), st) := fun st => by
  rw [run_shut F281 rfl rfl rfl]
  by_cases h : t.length ≤ s.length
  ·have h1 : (t.length : Int) ≤ s.length := by omega
   have hw : IntKind.i64.wrap ((s.length : Int) - t.length) = ((s.length - t.length : Nat) : Int) := by rw [iwrap (by omega) (by omega)]; omega
   have e : t.isSuffixOf s = (s.drop (s.length - t.length) == t) := by
    rw [Bool.eq_iff_iff, List.isSuffixOf_iff_suffix, List.suffix_iff_eq_drop, beq_iff_eq]
    exact ⟨fun h => h.symm, fun h => h.symm⟩
   have h2 : ((s.length - t.length : Nat) : Int) ≤ s.length := by omega
   generalize s.length - t.length = k at *
   push_cast [h1, hw, h2, List.take_length, e]
  ·have h1 : ¬ (t.length : Int) ≤ s.length := by omega
   have e : t.isSuffixOf s = false := by
    rw [← Bool.not_eq_true, List.isSuffixOf_iff_suffix]
    exact fun h2 => h h2.length_le
   push_cast [h1, e]
 rw [run_shut F263 rfl rfl rfl]
 push_cast [h]
theorem oth_from (s : ByteArray) : ∀ (f pos : Nat), s.size ≤ pos + f → (decide (Lib.idxFuncFrom othR true s f pos < 0)) = (s.data.toList.drop pos).all isD
 | 0, pos, h => by
  rw [List.drop_eq_nil_of_le (by rw [Array.length_toList]; exact h)]; rfl
 | f + 1, pos, h => by
  unfold Lib.idxFuncFrom
  by_cases hp : pos < s.size
  ·have hp' : pos < s.data.toList.length := by rw [Array.length_toList]; exact hp
   have hb : s.data.toList[pos]'hp' = s[pos]'hp := rfl
   rw [if_pos hp, List.drop_eq_getElem_cons hp', List.all_cons, hb]
   by_cases ha : (s[pos]'hp).toNat < 128
   ·rw [decode_ascii s pos hp ha]
    have ih := oth_from s f (pos + 1) (by omega)
    cases hd : isD (s[pos]'hp) with
    | true =>
     have : ¬ othR (s[pos]'hp).toNat = true := by
      simp only [isD, Bool.and_eq_true, decide_eq_true_eq] at hd
      simp only [othR, Bool.or_eq_true, decide_eq_true_eq]; omega
     rw [if_neg this, ih]; rfl
    | false =>
     have : othR (s[pos]'hp).toNat = true := by
      simp only [isD, Bool.and_eq_false_iff, decide_eq_false_iff_not] at hd
      simp only [othR, Bool.or_eq_true, decide_eq_true_eq]; omega
     rw [if_pos this]
     simp
   ·obtain ⟨h1, h2⟩ := decode_high s pos hp (by omega)
    have : othR (Utf8.decode s pos).1 = true := by
     simp only [othR, Bool.or_eq_true, decide_eq_true_eq]; omega
    have hd : isD (s[pos]'hp) = false := by
     simp only [isD, Bool.and_eq_false_iff, decide_eq_false_iff_not]; omega
    rw [if_pos this, hd]
    simp
  ·rw [if_neg hp, List.drop_eq_nil_of_le (by rw [Array.length_toList]; exact Nat.le_of_not_lt hp)]; rfl
theorem oth_idx (s : List UInt8) : decide (Lib.idxFunc othR true ⟨s.toArray⟩ < 0) = s.all isD := by
 have := oth_from ⟨s.toArray⟩ s.length 0 (by simp [ByteArray.size])
 simpa [Lib.idxFunc, ByteArray.size] using this
theorem k279 {s : List UInt8} {st : St} : run Tryz.prog HL0 279 [.str s, .fn (.func 280) [] []] st = some (.ret (.bool (s.any (!isD ·))), st) := by
 have h : ∀ st, run Tryz.prog HL0 298 [.str s, .fn (.func 280) [] []] st = some (.ret (.int .i64 (Lib.idxFunc othR true ⟨s.toArray⟩)), st) := fun st => by
  rw [run_shut F298 rfl rfl rfl]
  push_cast [k307]
 have e : decide (0 ≤ Lib.idxFunc othR true ⟨s.toArray⟩) = s.any (!isD ·) := by
  have := oth_idx s
  have h2 : decide (0 ≤ Lib.idxFunc othR true ⟨s.toArray⟩) = !(decide (Lib.idxFunc othR true ⟨s.toArray⟩ < 0)) := by
   rw [Bool.eq_iff_iff]; simp
  rw [h2, this, List.not_all_eq_any_not]
 rw [run_shut F279 rfl rfl rfl]
 push_cast [h, e]
theorem setV_len : setV.length = 256 := by simp [setV]
theorem setV_bd : V.bdL n setV = true := by
 have := bdL_map' (n := n) (f := fun k : Nat => V.bool (nmW.contains k.toUInt8)) (l := List.range 256)
 rw [setV, this]; simp [V.bd]
theorem setV_get (b : UInt8) : setV[b.toNat]? = some (.bool (nmW.contains b)) := by
 rw [setV, List.getElem?_map, List.getElem?_range b.toNat_lt]; simp
theorem k270 {b : UInt8} {st : St} : run Tryz.prog HL0 270 [.ep (.agg setV) 0, .int .u8 b.toNat] st = some (.ret (.bool (nmW.contains b)), st) := by
 have hb := b.toNat_lt
 have hg := setV_get b
 have hl := setV_len
 have hd := fun n => setV_bd (n := n)
 rw [run_shut F270 rfl rfl (by simp [V.bdL, V.bd, hd])]
 generalize nmW.contains b = c at *
 generalize setV = z at *
 push_cast [hb, hg, hl, hd, Nat.mul_one]
 all_goals exact dn_eq hb rfl
theorem L250 : ∀ {t : List UInt8}, t.length < 140737488355328 → runL Tryz.prog HL0 [0, 1] n B250_0 [(0, .str t), (1, .ep (.agg setV) 0)] (stN g n) = some (.exit 0, [(0, .str (t.dropWhile nmW.contains))], stN g n)
 | [], _ => by
  have hd := fun n => setV_bd (n := n)
  rw [runL_of B250_0.eq_1]
  generalize setV = z at *
  push_cast [List.length_nil, List.dropWhile_nil, hd]
 | b :: t, hl => by
  rw [List.length_cons] at hl
  have ih := L250 (t := t) (by omega)
  have hd := fun n => setV_bd (n := n)
  have h270 := fun st => k270 (b := b) (st := st)
  rw [runL_of B250_0.eq_1, List.dropWhile_cons]
  generalize nmW.contains b = c at *
  generalize setV = z at *
  have h1 : (0 : Int) < t.length + 1 := by omega
  cases c
  ·push_cast [List.length_cons, hd, h1, h270, List.getD_cons_zero]
  ·push_cast [List.length_cons, hd, h1, h270, List.getD_cons_zero, List.take_length, List.drop_one, List.tail_cons] at ih ⊢
   exact dn_eq (by omega) ih
theorem f250 {t : List UInt8} (hl : t.length < 140737488355328) {st : St} : run Tryz.prog HL0 250 [.str t, .ep (.agg setV) 0] st = some (.ret (.str (t.dropWhile nmW.contains)), st) := by
 have hd := fun n => setV_bd (n := n)
 have h0 := fun n => L250 (g := st.x.gl) (n := n) hl
 rw [run_shut F250 rfl rfl (by simp [V.bdL, V.bd, hd])]
 generalize setV = z at *
 push_cast at h0
 push_cast [hd, h0]
theorem L251 : ∀ (k : Nat) {t : List UInt8}, t.length = k → t.length < 140737488355328 → runL Tryz.prog HL0 [0, 1] n B251_0 [(0, .str t), (1, .ep (.agg setV) 0)] (stN g n) = some (.exit 0, [(0, .str (t.reverse.dropWhile nmW.contains).reverse)], stN g n) := by
 intro k
 induction k with
 | zero =>
  intro t ht hl
  obtain rfl := List.eq_nil_of_length_eq_zero ht
  have hd := fun n => setV_bd (n := n)
  rw [runL_of B251_0.eq_1]
  generalize setV = z at *
  push_cast [List.length_nil, List.dropWhile_nil, List.reverse_nil, hd]
 | succ k ih =>
  intro t ht hl
  rcases List.eq_nil_or_concat t with rfl | ⟨t', b, rfl⟩
  ·simp at ht
  ·rw [List.concat_eq_append] at *
   rw [List.length_append, List.length_singleton] at ht hl
   have ih := ih (t := t') (by omega) (by omega)
   have hd := fun n => setV_bd (n := n)
   have h270 := fun st => k270 (b := b) (st := st)
   have hw : IntKind.i64.wrap ((t'.length : Int) + 1 - 1) = ((t'.length : Nat) : Int) := by rw [iwrap (by omega) (by omega)]; omega
   have h1 : (0 : Int) < t'.length + 1 := by omega
   have h2 : (t'.length : Int) < t'.length + 1 := by omega
   have h3 : (t'.length : Int) ≤ t'.length + 1 := by omega
   have h4 : List.take t'.length (t' ++ [b]) = t' := List.take_left
   rw [runL_of B251_0.eq_1, List.reverse_append, List.reverse_singleton, List.singleton_append, List.dropWhile_cons]
   generalize nmW.contains b = c at *
   generalize setV = z at *
   cases c
   ·push_cast [List.length_append, List.length_singleton, hd, h1, h2, h3, hw, h270, getD_app, List.reverse_cons, List.reverse_reverse]
   ·push_cast [List.length_append, List.length_singleton, hd, h1, h2, h3, h4, hw, h270, getD_app] at ih ⊢
    exact ih
theorem f251 {t : List UInt8} (hl : t.length < 140737488355328) {st : St} : run Tryz.prog HL0 251 [.str t, .ep (.agg setV) 0] st = some (.ret (.str (t.reverse.dropWhile nmW.contains).reverse), st) := by
 have hd := fun n => setV_bd (n := n)
 have h0 := fun n => L251 (g := st.x.gl) (n := n) _ rfl hl
 rw [run_shut F251 rfl rfl (by simp [V.bdL, V.bd, hd])]
 generalize setV = z at *
 push_cast at h0
 push_cast [hd, h0]
theorem trim_swap {p : UInt8 → Bool} : ∀ {s : List UInt8}, ((s.reverse.dropWhile p).reverse).dropWhile p = ((s.dropWhile p).reverse.dropWhile p).reverse
 | [] => rfl
 | b :: r => by
  have ih := trim_swap (p := p) (s := r)
  cases hb : p b with
  | true =>
   have e1 : (b :: r).dropWhile p = r.dropWhile p := by simp [hb]
   rw [e1, ← ih, List.reverse_cons, List.dropWhile_append]
   cases hx : r.reverse.dropWhile p with
   | nil => simp [hb]
   | cons y l => simp [hb, List.dropWhile_cons]
  | false =>
   have e1 : (b :: r).dropWhile p = b :: r := by simp [hb]
   rw [e1, List.reverse_cons, List.dropWhile_append]
   cases hx : r.reverse.dropWhile p with
   | nil => simp [hb]
   | cons y l => simp [hb, List.dropWhile_cons]
theorem k214 {s : List UInt8} (hl : s.length ≤ 24) {st : St} : run Tryz.prog HL0 214 [.str s, .str nmW] st = some (.ret (.str (trimB nmW s)), st) := by
 have hd := fun n => setV_bd (n := n)
 have hz := setV_len
 have h249 := fun st => k249 (st := st)
 have h251 := fun st => f251 (t := s) (st := st) (by omega)
 have hle := (List.dropWhile_sublist nmW.contains (l := s.reverse)).length_le
 have h250 := fun st => f250 (t := (s.reverse.dropWhile nmW.contains).reverse) (st := st) (by simp at hle ⊢; omega)
 rw [trim_swap] at h250
 rw [run_shut F214 rfl rfl rfl, trimB]
 generalize setV = z at *
 by_cases h0 : s = []
 ·subst h0
  push_cast [List.dropWhile_nil, List.reverse_nil]
 ·push_cast [h0, h249, h250, h251, hd, hz, List.length_replicate, List.drop_replicate, Nat.sub_self, List.replicate_zero, List.append_nil]
theorem callable297 : Callable Tryz.prog 297 := ⟨_, Tryz.func297, by kernel_rfl, by kernel_rfl⟩
theorem callable249 : Callable Tryz.prog 249 := ⟨_, Tryz.func249, by kernel_rfl, by kernel_rfl⟩
theorem callable307 : Callable Tryz.prog 307 := ⟨_, Tryz.func307, by kernel_rfl, by kernel_rfl⟩
theorem callable308 : Callable Tryz.prog 308 := ⟨_, Tryz.func308, by kernel_rfl, by kernel_rfl⟩
theorem callable56 : Callable Tryz.prog 56 := ⟨_, Tryz.func56, by kernel_rfl, by kernel_rfl⟩
theorem v297 (s : List UInt8) (c : UInt8) (st : St) : VRet Tryz.prog 297 [.str s, .str [c]] st (.int .i64 (Lib.indexByte s c)) st := by
 refine VRet_of_below callable297 (fun w A vs hw ha => ?_)
 obtain ⟨hl, ha⟩ := ha
 match vs, hl with
 | [u, v], _ =>
 have e1 := (ha 0 u _ rfl rfl).str_inv
 have e2 := (ha 1 v _ rfl rfl).str_inv
 subst e1; subst e2
 refine (Tryz.stringslite_Index_one ⟨s.toArray⟩ c w).mono fun e w' ⟨he, hb⟩ => ?_
 subst he; subst hb
 exact ⟨_, rfl, fun w' A' => .int _ _, Below.refl _ _⟩
theorem nm_ascii : ∀ b ∈ nmW, b.toNat < 128 := by decide
theorem v249 (st : St) : VRet Tryz.prog 249 [.str nmW] st (.tup [.agg setV, .bool true]) st := by
 refine VRet_of_below callable249 (fun w A vs hw ha => ?_)
 obtain ⟨u, rfl, h1⟩ := ha.one
 have e1 := h1.str_inv
 subst e1
 refine (Tryz.strings_makeASCIISet Tryz.zeroValue288 ⟨nmW.toArray⟩ w (by decide) (fun j b hj => nm_ascii b (List.mem_of_getElem? hj))).mono fun e w' ⟨he, hb⟩ => ?_
 subst he; subst hb
 refine ⟨_, rfl, fun w' A' => ?_, Below.alloc (Below.refl _ _) (Nat.le_refl _) _⟩
 have hcell : ∀ (i : Nat) (v : Value) (c : V), (Lib.setCells nmW).toList[i]? = some v → setV[i]? = some c → Rep w' A' v c ∧ v.oneCell' = true := fun i v c hv hc => by
  have hi : i < 256 := by have := (List.getElem?_eq_some_iff.1 hc).1; rw [setV_len] at this; exact this
  have e2 : i.toUInt8.toNat = i := by simp [Nat.toUInt8, UInt8.toNat_ofNat', Nat.mod_eq_of_lt hi]
  have g1 := Lib.setCells_at nmW i.toUInt8
  have g2 := setV_get i.toUInt8
  rw [e2] at g1 g2
  rw [Array.getElem?_toList, g1] at hv
  rw [g2] at hc
  cases hv; cases hc
  exact ⟨.bool _, rfl⟩
 refine .tup [.agg (Lib.setCells nmW), .bool true] [.agg setV, .bool true] rfl (fun i v c h1 h2 => ?_)
 match i, h1, h2 with
 | 0, h1, h2 =>
  simp at h1 h2; subst h1 h2
  have := Rep.agg (w := w') (A := A') (Lib.setCells nmW).toList setV (by rw [Array.length_toList, Lib.setCells_size, setV_len]) (fun v hv => by
   obtain ⟨i, hi⟩ := List.mem_iff_getElem?.1 hv
   have hlt : i < setV.length := by rw [setV_len]; have := (List.getElem?_eq_some_iff.1 hi).1; rw [Array.length_toList, Lib.setCells_size] at this; exact this
   exact (hcell i v setV[i] hi (List.getElem?_eq_getElem hlt)).2) (fun i v c hv hc => (hcell i v c hv hc).1)
  rwa [Array.toArray_toList] at this
 | 1, h1, h2 => simp at h1 h2; subst h1 h2; exact .bool _
theorem pred280 (w : World) : PredAt Tryz.prog 280 #[] encR othR w := fun W r _ => by
 unfold FnGives
 by_cases h1 : r < 48 <;> by_cases h2 : 57 < r
 all_goals
  have z1 : (r : Int) < 48 ↔ r < 48 := by omega
  have z2 : (57 : Int) < (r : Int) ↔ 57 < r := by omega
  go_enter Tryz.func280, Tryz.ntmps280
  go_wp2
  all_goals first | (exfalso; omega) | (go_ret; exact ⟨by simp [othR, h1, h2], 0, rfl⟩)
theorem v307 (s : List UInt8) (st : St) : VRet Tryz.prog 307 [.str s, .fn (.func 280) [] [], .bool true] st (.int .i64 (Lib.idxFunc othR true ⟨s.toArray⟩)) st := by
 refine VRet_of_below callable307 (fun w A vs hw ha => ?_)
 obtain ⟨hl, ha⟩ := ha
 match vs, hl with
 | [v0, v1, v2], _ =>
 have e0 := (ha 0 v0 _ rfl rfl).str_inv
 have r1 := ha 1 v1 _ rfl rfl
 have e2 := (ha 2 v2 _ rfl rfl).bool_inv
 have e1 : v1 = .func (.func 280) #[] #[] := by
  cases r1 with
  | fn _ vs us _ _ e1 e2 _ _ =>
   have h1 : vs = [] := List.eq_nil_of_length_eq_zero e1
   have h2 : us = [] := List.eq_nil_of_length_eq_zero e2
   rw [h1, h2]
 subst e0; subst e1; subst e2
 refine (Tryz.strings_indexFunc 280 #[] (enters_of Tryz.func280 (by kernel_rfl) rfl) othR true ⟨s.toArray⟩ w (pred280 w)).mono fun e w' ⟨he, hb⟩ => ?_
 subst he
 exact ⟨_, rfl, fun w' A' => .int _ _, hb⟩
theorem HL0_ok : ESound Tryz.prog HL0 := fun f args st r s h => by
 obtain ⟨z, hz, e⟩ := Option.map_eq_some_iff.1 h
 cases e
 by_cases h1 : f = 297
 ·subst h1
  rw [show Nat.beq 297 297 = true from rfl, cond_true] at hz
  unfold q297 at hz
  split at hz <;> cases hz
  exact v297 _ _ _
 rw [show Nat.beq f 297 = false from Bool.eq_false_iff.2 fun e => h1 (Nat.eq_of_beq_eq_true e), cond_false] at hz
 by_cases h2 : f = 249
 ·subst h2
  rw [show Nat.beq 249 249 = true from rfl, cond_true] at hz
  unfold q249 at hz
  split at hz
  ·split at hz
   ·rename_i e; subst e; cases hz; exact v249 _
   ·cases hz
  ·cases hz
 rw [show Nat.beq f 249 = false from Bool.eq_false_iff.2 fun e => h2 (Nat.eq_of_beq_eq_true e), cond_false] at hz
 by_cases h3 : f = 307
 ·subst h3
  rw [show Nat.beq 307 307 = true from rfl, cond_true] at hz
  unfold q307 at hz
  split at hz <;> cases hz
  exact v307 _ _
 rw [show Nat.beq f 307 = false from Bool.eq_false_iff.2 fun e => h3 (Nat.eq_of_beq_eq_true e), cond_false] at hz
 cases hz
end Go.Proofs.YtflbieghmgobgaaGreatDoor

namespace Go.Proofs.YtflbieghmgobgaaGreatDoor
open Go.Sha Go.RowKit
set_option maxRecDepth 100000
theorem parse_digs : ∀ (s : List UInt8) (acc : Nat), s.all isD = true → acc < 18446744073709551616 → Lib.parseUint10 acc s = if s.foldl (fun n b => 10 * n + (b.toNat - 48)) acc < 18446744073709551616 then .ok (s.foldl (fun n b => 10 * n + (b.toNat - 48)) acc) else .range
 | [], acc, _, h => by simp [Lib.parseUint10, h]
 | b :: s, acc, h, ha => by
  have mono : ∀ (s : List UInt8) (n : Nat), n ≤ s.foldl (fun n b => 10 * n + (b.toNat - 48)) n := by
   intro s
   induction s with
   | nil => intro n; exact Nat.le_refl _
   | cons c s ih => intro n; rw [List.foldl_cons]; refine Nat.le_trans ?_ (ih _); omega
  simp only [List.all_cons, Bool.and_eq_true] at h
  obtain ⟨hb, hs⟩ := h
  have hb' : 48 ≤ b.toNat ∧ b.toNat ≤ 57 := by
   simp only [isD, Bool.and_eq_true, decide_eq_true_eq] at hb; omega
  rw [Lib.parseUint10, if_pos hb', List.foldl_cons]
  have hm := mono s (10 * acc + (b.toNat - 48))
  by_cases h1 : 1844674407370955162 ≤ acc
  ·rw [if_pos h1, if_neg (by omega)]
  ·rw [if_neg h1]
   by_cases h2 : 18446744073709551616 ≤ acc * 10 + (b.toNat - 48)
   ·rw [if_pos h2, if_neg (by omega)]
   ·rw [if_neg h2, parse_digs s _ hs (by omega), Nat.mul_comm]
theorem atoi_digs {s : List UInt8} (h0 : s ≠ []) (h : s.all isD = true) : Lib.atoiAll s = if natOf s < 9223372036854775808 then .ok (natOf s : Int) else .range := by
 cases s with
 | nil => exact absurd rfl h0
 | cons b s =>
  have hb : isD b = true := by simp only [List.all_cons, Bool.and_eq_true] at h; exact h.1
  have hb' : 48 ≤ b.toNat ∧ b.toNat ≤ 57 := by
   simp only [isD, Bool.and_eq_true, decide_eq_true_eq] at hb; omega
  rw [Lib.atoiAll_plain b s (by omega) (by omega), Lib.parseMag, if_neg (by simp), parse_digs (b :: s) 0 h (by omega)]
  show Lib.signless (if natOf (b :: s) < 18446744073709551616 then .ok (natOf (b :: s)) else .range) = _
  by_cases h1 : natOf (b :: s) < 18446744073709551616
  ·rw [if_pos h1]
   unfold Lib.signless
   by_cases h2 : natOf (b :: s) < 9223372036854775808
   ·rw [if_pos h2]; simp only; rw [if_neg (by omega)]
   ·rw [if_neg h2]; simp only; rw [if_pos (by omega)]
  ·rw [if_neg h1, if_neg (by omega)]; rfl
theorem natOf_lt : ∀ {s : List UInt8} {n : Nat}, s.all isD = true → s.foldl (fun n b => 10 * n + (b.toNat - 48)) n < (n + 1) * 10 ^ s.length
 | [], n, _ => by simp
 | b :: s, n, h => by
  simp only [List.all_cons, Bool.and_eq_true] at h
  have hb : b.toNat ≤ 57 := by have := h.1; simp only [isD, Bool.and_eq_true, decide_eq_true_eq] at this; omega
  have ih := natOf_lt (s := s) (n := 10 * n + (b.toNat - 48)) h.2
  rw [List.foldl_cons, List.length_cons, Nat.pow_succ]
  refine Nat.lt_of_lt_of_le ih ?_
  rw [show (n + 1) * (10 ^ s.length * 10) = ((n + 1) * 10) * 10 ^ s.length by rw [Nat.mul_comm (10 ^ s.length), Nat.mul_assoc]]
  exact Nat.mul_le_mul_right _ (by omega)
theorem v308 (s : List UInt8) (st : St) (h0 : s ≠ []) (h : s.all isD = true) (hl : s.length ≤ 18) : VRet Tryz.prog 308 [.str s] st (.tup [.int .i64 (natOf s), .nili]) st := by
 have hn : natOf s < 9223372036854775808 := by
  have h1 := natOf_lt (n := 0) h
  have h2 : 10 ^ s.length ≤ 10 ^ 18 := Nat.pow_le_pow_right (by omega) hl
  unfold natOf; omega
 refine VRet_of_below callable308 (fun w A vs hw ha => ?_)
 obtain ⟨u, rfl, h1⟩ := ha.one
 have e1 := h1.str_inv
 subst e1
 have hat := atoi_digs h0 h
 rw [if_pos hn] at hat
 refine (Tryz.strconv_Atoi_ok ⟨s.toArray⟩ (by simp [ByteArray.size]; omega) (natOf s : Int) (by simpa using hat) w).mono fun e w' ⟨he, hb⟩ => ?_
 subst he
 refine ⟨_, rfl, fun w' A' => ?_, ?_⟩
 ·refine .tup [.int .i64 (natOf s), .nilIface] [.int .i64 (natOf s), .nili] rfl (fun i v c h1 h2 => ?_)
  match i, h1, h2 with
  | 0, h1, h2 => simp at h1 h2; subst h1 h2; exact .int _ _
  | 1, h1, h2 => simp at h1 h2; subst h1 h2; exact .nili
 ·rcases hb with rfl | ⟨t, rfl⟩
  ·exact Below.refl _ _
  ·exact Lib.bytesWorld_below w 5 t
open Go.Sort in
def PB : Type := { p : Prm // 0 ≤ p.chan ∧ p.chan ≤ 999 ∧ 0 ≤ p.attr ∧ p.attr ≤ 14 }
instance : Inhabited PB := ⟨⟨⟨0, 0⟩, by decide⟩⟩
def encP (p : PB) : List Value := [.int .i64 p.1.chan, .int .i64 p.1.attr]
def cmpB (p q : PB) : Int := if p.1.chan ≠ q.1.chan then p.1.chan - q.1.chan else p.1.attr - q.1.attr
theorem clos57 (x y : PB) (W : World) : Calls Tryz.prog 57 #[.agg (encP x).toArray, .agg (encP y).toArray] W fun e w' => e = .returned (.int .i64 (cmpB x y)) ∧ ∃ q os', w' = Go.Sort.grow (W.drewN q) os' := by
 obtain ⟨⟨a, b⟩, hx⟩ := x
 obtain ⟨⟨c, d⟩, hy⟩ := y
 simp only at hx hy
 have w1 : IntKind.i64.wrap (a - c) = a - c := iwrap (by omega) (by omega)
 have w2 : IntKind.i64.wrap (b - d) = b - d := iwrap (by omega) (by omega)
 simp only [encP, cmpB]
 by_cases h : a = c
 ·rw [if_neg (by simp [h])]
  subst h
  go_enter Tryz.func57, Tryz.ntmps57
  go_wp2
  go_ret
  exact ⟨rfl, 0, _, by rw [Go.Sort.alloc_eq_grow, Go.Sort.alloc_eq_grow, Go.Sort.grow_grow]; rfl⟩
 ·rw [if_pos h]
  go_enter Tryz.func57, Tryz.ntmps57
  go_wp2
  go_ret
  exact ⟨rfl, 0, _, by rw [Go.Sort.alloc_eq_grow, Go.Sort.alloc_eq_grow, Go.Sort.grow_grow]; rfl⟩
open Go.Sort Go.Proofs in
theorem lt_B {x y : PB} : ltOf cmpB x y = decide (x.1.chan < y.1.chan ∨ x.1.chan = y.1.chan ∧ x.1.attr < y.1.attr) := by
 unfold ltOf cmpB
 split
 ·rename_i h; rw [Bool.eq_iff_iff]; simp only [decide_eq_true_eq]; omega
 ·rename_i h; rw [Bool.eq_iff_iff]; simp only [decide_eq_true_eq]; omega
open Go.Sort Go.Proofs in
theorem swo_B : SWO (ltOf cmpB) where
 irrefl x := by rw [lt_B]; simp
 trans x y z h1 h2 := by rw [lt_B] at *; simp only [decide_eq_true_eq] at *; omega
 ntrans x y z h1 h2 := by rw [lt_B] at *; simp only [decide_eq_false_iff_not] at *; omega
open Go.Sort Go.Proofs in
theorem tot_B (x y : PB) (h1 : ltOf cmpB x y = false) (h2 : ltOf cmpB y x = false) : x = y := by
 rw [lt_B] at h1 h2
 simp only [decide_eq_false_iff_not] at h1 h2
 obtain ⟨⟨a, b⟩, hx⟩ := x
 obtain ⟨⟨c, d⟩, hy⟩ := y
 simp only at h1 h2
 have e1 : a = c := by omega
 have e2 : b = d := by omega
 subst e1; subst e2; rfl
theorem pb_list : ∀ {xs : List V}, xs.all okPV = true → ∃ l : List PB, xs = l.map fun p => p.1.v
 | [], _ => ⟨[], rfl⟩
 | x :: r, h => by
  simp only [List.all_cons, Bool.and_eq_true] at h
  obtain ⟨l, rfl⟩ := pb_list h.2
  have h1 := h.1
  unfold okPV at h1
  split at h1
  ·rename_i c a
   simp only [Bool.and_eq_true, decide_eq_true_eq] at h1
   exact ⟨⟨⟨c, a⟩, by dsimp only; omega⟩ :: l, rfl⟩
  ·cases h1
open Go.Sort Go.Proofs in
theorem v56 {st : St} {id : Nat} {r : Arr} (hid : Sha.look st.arr id = some r) (hes : r.es = 2) (hw : r.wr = true) (hbig : r.xs.length ≤ 100000000) (hok : r.xs.all okPV = true) :
  VCalls Tryz.prog 56 [.osl id r.xs.length, .fn (.func 57) [] []] st fun x s => x = .ret (.tup []) ∧ s = ⟨st.nx, st.mem, updA st.arr id { r with xs := r.xs.mergeSort leV }, st.x⟩ := by
 obtain ⟨l, hl⟩ := pb_list hok
 have eg : ∀ args w, (callFunc 57 args).run Tryz.prog w = .ok (.enter 57 args) w := enters_of Tryz.func57 (by kernel_rfl) rfl
 have hlen : l.length = r.xs.length := by rw [hl, List.length_map]
 have h := VCalls_sort (P := Tryz.prog) (F := 56) callable56 (k := 2) (by omega) (enc := encP) (fun _ => rfl) (fun x v hv => by
   simp [encP] at hv; rcases hv with rfl | rfl <;> rfl) (f := fun p : PB => p.1.v) (fun _ => rfl) (fun {w A x j v c} hc hr => by
   match j, hc with
   | 0, hc => cases hc; cases hr; rfl
   | 1, hc => cases hc; cases hr; rfl
   | j + 2, hc => simp [Prm.v, V.cells] at hc) (fun {w A x j v c} hv hc => by
   match j, hv, hc with
   | 0, hv, hc => cases hv; cases hc; exact .int _ _
   | 1, hv, hc => cases hv; cases hc; exact .int _ _
   | j + 2, hv, hc => simp [encP] at hv) (cf := cmpB) (g := 57)
  (fun p cap fv w => Tryz.sort_none p cap fv w)
  (fun blk off cap d w h1 h2 h3 h4 => Tryz.sort_total Tryz.isAgg44 Tryz.sizeOf44 encP (fun _ => rfl) (fun x v hv => by
   simp [encP] at hv; rcases hv with rfl | rfl <;> rfl) cmpB swo_B tot_B 57 eg blk off cap d w h1 h2 h3 h4)
  (fun x y W => clos57 x y W) (st := st) (l := l) hid hl hes hw (by omega)
 rw [hlen] at h
 have e : (l.mergeSort fun x y => !ltOf cmpB y x).map (fun p : PB => p.1.v) = r.xs.mergeSort leV := by
  rw [hl]
  refine List.map_mergeSort (fun a _ b _ => ?_)
  rw [lt_B]
  simp only [Prm.v, leV]
  rw [Bool.eq_iff_iff]
  simp
 rw [e] at h
 exact h
theorem HH_ok : ESound Tryz.prog HH := fun f args st r s h => by
 simp only [HH] at h
 by_cases h1 : f = 56
 ·subst h1
  rw [show Nat.beq 56 56 = true from rfl, cond_true] at h
  unfold hSort at h
  split at h
  ·rename_i id n
   unfold hSortA at h
   split at h
   ·rename_i r0 hr
    split at h
    ·rename_i hc
     cases h
     obtain ⟨c1, c2, c3, c4, c5⟩ := hc
     subst c1
     exact v56 hr c3 c4 c2 c5
    ·cases h
   ·cases h
  ·cases h
 rw [show Nat.beq f 56 = false from Bool.eq_false_iff.2 fun e => h1 (Nat.eq_of_beq_eq_true e), cond_false] at h
 obtain ⟨z, hz, e⟩ := Option.map_eq_some_iff.1 h
 cases e
 by_cases h1 : f = 259
 ·subst h1
  rw [show Nat.beq 259 259 = true from rfl, cond_true] at hz
  unfold hCut at hz
  split at hz
  ·split at hz
   ·rename_i hl; cases hz; exact run_sound mixed HL0_ok _ _ _ _ _ (k259 hl)
   ·cases hz
  ·cases hz
 rw [show Nat.beq f 259 = false from Bool.eq_false_iff.2 fun e => h1 (Nat.eq_of_beq_eq_true e), cond_false] at hz
 by_cases h1 : f = 263
 ·subst h1
  rw [show Nat.beq 263 263 = true from rfl, cond_true] at hz
  unfold hSuf at hz
  split at hz
  ·split at hz
   ·rename_i hl; cases hz; exact run_sound mixed HL0_ok _ _ _ _ _ (k263 hl.1 hl.2)
   ·cases hz
  ·cases hz
 rw [show Nat.beq f 263 = false from Bool.eq_false_iff.2 fun e => h1 (Nat.eq_of_beq_eq_true e), cond_false] at hz
 by_cases h1 : f = 279
 ·subst h1
  rw [show Nat.beq 279 279 = true from rfl, cond_true] at hz
  unfold hAny at hz
  split at hz
  ·cases hz; exact run_sound mixed HL0_ok _ _ _ _ _ k279
  ·cases hz
 rw [show Nat.beq f 279 = false from Bool.eq_false_iff.2 fun e => h1 (Nat.eq_of_beq_eq_true e), cond_false] at hz
 by_cases h1 : f = 308
 ·subst h1
  rw [show Nat.beq 308 308 = true from rfl, cond_true] at hz
  unfold hAtoi at hz
  split at hz
  ·split at hz
   ·rename_i hl; cases hz; exact v308 _ _ hl.1 hl.2.1 hl.2.2
   ·cases hz
  ·cases hz
 rw [show Nat.beq f 308 = false from Bool.eq_false_iff.2 fun e => h1 (Nat.eq_of_beq_eq_true e), cond_false] at hz
 by_cases h1 : f = 214
 ·subst h1
  rw [show Nat.beq 214 214 = true from rfl, cond_true] at hz
  unfold hTrim at hz
  split at hz
  ·split at hz
   ·rename_i hl
    obtain ⟨e1, e2⟩ := hl
    subst e1
    cases hz; exact run_sound mixed HL0_ok _ _ _ _ _ (k214 e2)
   ·cases hz
  ·cases hz
 rw [show Nat.beq f 214 = false from Bool.eq_false_iff.2 fun e => h1 (Nat.eq_of_beq_eq_true e), cond_false] at hz
 cases hz
end Go.Proofs.YtflbieghmgobgaaGreatDoor

namespace Go.Proofs.YtflbieghmgobgaaGreatDoor
open Go.ChangeShapes Go.WideShapes Go.ChangeAt Go.RowKit Go.Sha
theorem sound2 : ESound Tryz.prog HH2 := HH2_ok HH_ok
theorem sk1 : (laidOutB Tryz.prog) = true := by kernel_rfl
theorem sk2 : (mapsRowed Tryz.prog) = true := by kernel_rfl
theorem sk6 : (Tryz.prog.stops == []) = true := by kernel_rfl
theorem sk8 : (Tryz.prog.stopKnobs == []) = true := by kernel_rfl
theorem sk22 : (Rows.showChecksRow.plainKeys == Tryz.prog.plainKeys) = true := by kernel_rfl
theorem sk24 : (Tryz.prog.stopsHeard) = true := by kernel_rfl
theorem sk25 : (Tryz.prog.mayEnter) = true := by kernel_rfl
theorem sk26 : (Rows.showChecksRow.lifted == Tryz.prog.liftsFinal) = true := by kernel_rfl
theorem sk27 : (Tryz.prog.make == some Rows.showChecksRow.make) = true := by kernel_rfl
theorem sk15 : (Rows.showChecksRow.mapsOut == Tryz.prog.mapsAmong Tryz.f3.resultTypes.toList) = true := by kernel_rfl
theorem sown : ownKnob Tryz.prog.godebug = none := by kernel_rfl
theorem smain : Tryz.prog.mainIs = some (Rows.showChecksCard.stood.harness.1, Rows.showChecksCard.stood.harness.2.toList) := by kernel_rfl
theorem slooks : Rows.showChecksCard.stood.looks = Tryz.prog.looks [] := by kernel_rfl
end Go.Proofs.YtflbieghmgobgaaGreatDoor

