/- Floats: what a rounding writes is no NaN; products and quotients with a finite number that is not 0 are valid. The library's exact way of reading a number: it ends, and says one and the same. -/
import Derived.Laws.FloatArith
import Derived.Test.YtgdolcoiihagfaaGreatDoorUsA
import Derived.Test.YtgdolcoiihagfaaGreatDoorRfX
namespace Go.Proofs.YtgdolcoiihagfaaGreatDoor
open Go
set_option linter.all false
set_option maxRecDepth 100000
namespace Fl
open Ieee
theorem read_word (neg:Bool) (r:Nat) (h:r≤double.infRung):(double.read (double.word neg r)).isNaN=false:=by
 have hs:double.signWeight=9223372036854775808:=rfl
 have hi:double.infRung=9218868437227405312:=rfl
 have hb:double.binade=4503599627370496:=rfl
 have hr:double.word neg r % double.signWeight=r:=by
   unfold Format.word
   rw [hs]
   rw [hi] at h
   split <;> omega
 unfold Format.read
 simp only [hr]
 split
 · rfl
 · split
   · rfl
   · split
     · rfl
     · rename_i h1 h2 h3
       omega
def Fin (y:Nat):Prop:=∃ t n j,double.read y=.number t n j∧n≠0
def pows:List Nat:=[4607182418800017408,4621819117588971520,4636737291354636288,4652007308841189376,4666723172467343360,4681608360884174848,4696837146684686336,4711630319722168320,4726483295884279808,4741671816366391296,4756540486875873280,4771362005757984768,4786511204640096256,4801453603149578240,4816244402031689728,4831355200913801216,4846369599423283200,4861130398305394688,4876203697187506176,4891288408196988160,4906019910204099648,4921056587992461136,4936209963552724370]
end Fl
open Go Go.RowKit
namespace Us
structure FT (T:Nat→Nat) (w:World):Prop where
 sl:∃ g o c,w.cell? ⟨16,0,none⟩=some (.slice (some ⟨g,o,none⟩) 23 c)∧∀ k,k < 23→w.cell? ⟨g,o + k,none⟩=some (.float .f64 (T k))
end Us
end Go.Proofs.YtgdolcoiihagfaaGreatDoor
