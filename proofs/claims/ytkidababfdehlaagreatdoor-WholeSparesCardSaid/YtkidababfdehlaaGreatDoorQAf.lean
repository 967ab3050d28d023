/- Parts of the walk. -/
import Derived.Test.YtkidababfdehlaaGreatDoorProg
import Derived.Test.YtkidababfdehlaaGreatDoorQAa
import Derived.Shelf.SlMaps.Clone
import Derived.Shelf.SlSortCmp.NoneTotal
import Derived.Shelf.Strings.SlTrimAscii
import Derived.Shelf.Small.Wraps
import Derived.Shelf.Strings.Cut
import Derived.Shelf.Strings.Split
import Derived.Shelf.Strconv.Atoi
import Derived.Shelf.Strconv.Itoa3
import Derived.Shelf.Sort.Plain
import Derived.Shelf.Slices.In.SortNone
import Derived.Shelf.Slices.Turned
set_option linter.all false
set_option maxRecDepth 100000
namespace Go.Proofs
open YtkidababfdehlaaGreatDoor
open _root_.Go.Proofs.Tryz
open Tryz
open Go.Shelf
def Tryz.zc:Go.Shelf.Ren:=⟨fun|5=>204|7=>256|n=>n,fun|23=>125|25=>9|3=>65|4=>4|20=>20|n=>n,fun|n=>n⟩
theorem Tryz.RJ:Go.Proofs.SlLaysW.n5 prog Tryz.zc:=by
 repeat' first|kernel_rfl|exact Br|exact λ_=>k_|constructor
def Tryz.DD:Go.Shelf.Ren:=⟨fun|6=>176|15=>217|14=>230|28=>273|29=>274|20=>286|21=>287|22=>288|23=>289|24=>290|25=>291|26=>292|27=>293|46=>348|47=>333|48=>334|49=>349|50=>350|57=>382|n=>n,fun|22=>109|24=>223|25=>281|3=>3|39=>180|0=>0|53=>365|55=>378|4=>4|46=>371|45=>370|50=>144|5=>5|9=>9|66=>423|70=>168|76=>464|77=>465|n=>n,fun|n=>n⟩
theorem Tryz.Uh:Go.Proofs.SlLaysF0.n6 prog Tryz.DD:=by
 repeat' first|kernel_rfl|exact Br|exact λ_=>k_|constructor
def Tryz.DE:Go.Shelf.Ren:=⟨fun|6=>189|15=>217|14=>240|28=>273|29=>274|20=>301|21=>302|22=>303|23=>304|24=>305|25=>306|26=>307|27=>308|46=>359|47=>333|48=>334|49=>360|50=>361|57=>388|n=>n,fun|22=>96|24=>299|25=>301|3=>3|39=>180|0=>0|53=>365|55=>378|4=>4|46=>371|45=>370|50=>144|5=>5|9=>9|66=>423|70=>168|76=>464|77=>465|n=>n,fun|n=>n⟩
theorem Tryz.Ux:Go.Proofs.SlLaysF0.n6 prog Tryz.DE:=by
 repeat' first|kernel_rfl|exact Br|exact λ_=>k_|constructor
def Tryz.DF:Go.Shelf.Ren:=⟨fun|6=>212|15=>217|14=>262|28=>273|29=>274|20=>324|21=>325|22=>326|23=>327|24=>328|25=>329|26=>330|27=>331|46=>374|47=>333|48=>334|49=>375|50=>376|57=>397|n=>n,fun|22=>183|24=>42|25=>323|3=>3|39=>180|0=>0|53=>365|55=>378|4=>4|46=>371|45=>370|50=>144|5=>5|9=>9|66=>423|70=>168|76=>464|77=>465|n=>n,fun|n=>n⟩
theorem Tryz.Uj:Go.Proofs.SlLaysF0.n6 prog Tryz.DF:=by
 repeat' first|kernel_rfl|exact Br|exact λ_=>k_|constructor
def Tryz.DG:Go.Shelf.Ren:=⟨fun|6=>224|15=>217|14=>281|28=>273|29=>274|20=>339|21=>340|22=>341|23=>342|24=>343|25=>344|26=>345|27=>346|46=>379|47=>333|48=>334|49=>380|50=>381|57=>398|n=>n,fun|22=>108|24=>273|25=>330|3=>3|39=>180|0=>0|53=>365|55=>378|4=>4|46=>371|45=>370|50=>144|5=>5|9=>9|66=>423|70=>168|76=>464|77=>465|n=>n,fun|n=>n⟩
theorem Tryz.Ui:Go.Proofs.SlLaysF0.n6 prog Tryz.DG:=by
 repeat' first|kernel_rfl|exact Br|exact λ_=>k_|constructor
def Tryz.xr:Go.Shelf.Ren:=⟨fun|160=>210|232=>259|231=>249|227=>250|234=>260|233=>251|236=>261|235=>252|228=>320|271=>323|151=>321|197=>242|120=>373|152=>371|260=>309|137=>395|119=>396|224=>312|225=>311|217=>310|266=>362|n=>n,fun|9=>9|4=>4|3=>3|5=>5|117=>354|116=>353|0=>0|124=>357|21=>21|105=>346|46=>180|119=>443|139=>446|138=>445|n=>n,fun|3=>4|4=>5|n=>n⟩
theorem Tryz.KH:Go.Proofs.Lays.n160 prog Tryz.xr:=by
 repeat' first|kernel_rfl|exact Br|exact λ_=>k_|constructor
def Tryz.xt:Go.Shelf.Ren:=⟨fun|161=>201|231=>249|227=>250|233=>251|235=>252|228=>320|197=>242|151=>321|260=>309|152=>371|137=>395|119=>396|224=>312|225=>311|217=>310|266=>362|n=>n,fun|9=>9|4=>4|3=>3|5=>5|117=>354|116=>353|0=>0|124=>357|105=>346|21=>21|119=>443|46=>180|139=>446|138=>445|n=>n,fun|3=>4|4=>5|n=>n⟩
theorem Tryz.MK:Go.Proofs.Lays.n161 prog Tryz.xt:=by
 repeat' first|kernel_rfl|exact Br|exact λ_=>k_|constructor
def Tryz.xu:Go.Shelf.Ren:=⟨fun|145=>137|220=>195|219=>244|217=>310|225=>311|224=>312|267=>313|266=>362|314=>363|n=>n,fun|9=>9|4=>4|59=>240|3=>3|5=>5|46=>180|146=>447|51=>365|n=>n,fun|1=>0|n=>n⟩
theorem Tryz.ML:Go.Proofs.Lays.n145 prog Tryz.xu:=by
 repeat' first|kernel_rfl|exact Br|exact λ_=>k_|constructor
def Tryz.xv:Go.Shelf.Ren:=⟨fun|104=>140|211=>200|207=>248|n=>n,fun|9=>9|4=>4|24=>225|3=>3|n=>n,fun|n=>n⟩
theorem Tryz.MM:Go.Proofs.Lays.n104 prog Tryz.xv:=by
 repeat' first|kernel_rfl|exact Br|exact λ_=>k_|constructor
def Tryz.pL:Go.Shelf.Ren:=⟨fun|146=>73|221=>136|268=>192|138=>193|143=>194|195=>241|197=>242|218=>243|219=>244|260=>309|217=>310|225=>311|224=>312|267=>313|266=>362|314=>363|n=>n,fun|9=>9|31=>52|3=>3|4=>4|0=>0|105=>346|21=>21|5=>5|46=>180|119=>443|139=>446|138=>445|146=>447|51=>365|n=>n,fun|1=>0|3=>4|4=>5|n=>n⟩
theorem Tryz.MB:Go.Proofs.Lays.n146 prog Tryz.pL:=by
 repeat' first|kernel_rfl|exact Br|exact λ_=>k_|constructor
def Tryz.pA:Go.Shelf.Ren:=⟨fun|172=>198|244=>245|245=>246|247=>314|279=>315|280=>316|281=>317|282=>318|287=>364|316=>365|171=>199|205=>366|321=>389|322=>390|243=>247|246=>319|283=>367|284=>368|285=>369|286=>370|129=>274|317=>391|318=>392|319=>393|320=>394|337=>402|338=>403|n=>n,fun|9=>9|3=>3|75=>305|76=>306|4=>4|5=>5|167=>409|37=>65|0=>0|85=>410|2=>2|168=>412|53=>378|175=>449|46=>180|210=>453|127=>477|145=>480|143=>478|21=>21|171=>455|173=>457|212=>482|51=>365|20=>20|213=>483|232=>489|233=>490|80=>491|n=>n,fun|15=>6|16=>7|17=>8|18=>9|19=>10|n=>n⟩
theorem Tryz.JN:Go.Proofs.Lays.n172 prog Tryz.pA:=by
 repeat' first|kernel_rfl|exact Br|exact λ_=>k_|constructor
def Tryz.vr:Go.Shelf.Ren:=⟨fun|171=>199|243=>247|246=>319|283=>367|284=>368|285=>369|286=>370|129=>274|317=>391|318=>392|319=>393|320=>394|337=>402|338=>403|n=>n,fun|3=>3|9=>9|2=>2|4=>4|171=>455|0=>0|53=>378|37=>65|5=>5|173=>457|212=>482|51=>365|20=>20|213=>483|46=>180|232=>489|233=>490|n=>n,fun|17=>8|18=>9|19=>10|n=>n⟩
theorem Tryz.Ek:Go.Proofs.LaysM.n171 prog Tryz.vr:=by
 repeat' first|kernel_rfl|exact Br|exact λ_=>k_|constructor
def Tryz.xw:Go.Shelf.Ren:=⟨fun|190=>155|125=>217|258=>216|128=>273|129=>274|302=>264|303=>265|304=>266|305=>267|306=>268|307=>269|308=>270|309=>271|310=>272|333=>332|329=>333|330=>334|334=>335|335=>336|336=>337|344=>377|n=>n,fun|31=>52|9=>9|3=>3|46=>180|0=>0|51=>365|53=>378|4=>4|183=>371|182=>370|131=>144|5=>5|218=>423|222=>168|228=>464|229=>465|n=>n,fun|n=>n⟩
theorem Tryz.Bu:Go.Proofs.Lays.n190 prog Tryz.xw:=by
 repeat' first|kernel_rfl|exact Br|exact λ_=>k_|constructor
end Go.Proofs
