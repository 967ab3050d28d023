/- Words for pods: kept where what was there stays. -/
import Derived.Test.YtgdbpjaebdlnjaaQosA
namespace Go.Proofs.Ytgdbpjaebdlnjaa
open Go.RowKit
namespace PodV
theorem AtB.below {w w' : World} {g : Nat} {p : PodV} (h : AtB w g p) (hb : Below w.heap.size w w') (hg : g < w.heap.size) : AtB w' g p :=
  ⟨(hb.cell (p := ⟨g, 0, none⟩) hg).trans h.c0, (hb.cell (p := ⟨g, 1, none⟩) hg).trans h.c1, (hb.cell (p := ⟨g, 2, none⟩) hg).trans h.c2, (hb.cell (p := ⟨g, 3, none⟩) hg).trans h.c3, (hb.cell (p := ⟨g, 4, none⟩) hg).trans h.c4, (hb.cell (p := ⟨g, 5, none⟩) hg).trans h.c5, (hb.cell (p := ⟨g, 6, none⟩) hg).trans h.c6, (hb.cell (p := ⟨g, 7, none⟩) hg).trans h.c7, (hb.cell (p := ⟨g, 8, none⟩) hg).trans h.c8, (hb.cell (p := ⟨g, 9, none⟩) hg).trans h.c9, (hb.cell (p := ⟨g, 10, none⟩) hg).trans h.c10⟩
theorem At.below {w w' : World} {B : Nat} {ad : Addr} {p : PodV} (h : At w ad p) (hb : Below B w w') (hg : ad.block < B) : At w' ad p :=
  ⟨(hb.cell (p := ad) hg).trans h.c0, (hb.cell (p := { block := ad.block, off := ad.off + 1 }) hg).trans h.c1, (hb.cell (p := { block := ad.block, off := ad.off + 2 }) hg).trans h.c2, (hb.cell (p := { block := ad.block, off := ad.off + 3 }) hg).trans h.c3, (hb.cell (p := { block := ad.block, off := ad.off + 4 }) hg).trans h.c4, (hb.cell (p := { block := ad.block, off := ad.off + 5 }) hg).trans h.c5, (hb.cell (p := { block := ad.block, off := ad.off + 6 }) hg).trans h.c6, (hb.cell (p := { block := ad.block, off := ad.off + 7 }) hg).trans h.c7, (hb.cell (p := { block := ad.block, off := ad.off + 8 }) hg).trans h.c8, (hb.cell (p := { block := ad.block, off := ad.off + 9 }) hg).trans h.c9, (hb.cell (p := { block := ad.block, off := ad.off + 10 }) hg).trans h.c10⟩
theorem At.drew {w : World} {ad : Addr} {p : PodV} (h : At w ad p) : At w.drew ad p := ⟨h.c0, h.c1, h.c2, h.c3, h.c4, h.c5, h.c6, h.c7, h.c8, h.c9, h.c10⟩
end PodV
end Go.Proofs.Ytgdbpjaebdlnjaa
