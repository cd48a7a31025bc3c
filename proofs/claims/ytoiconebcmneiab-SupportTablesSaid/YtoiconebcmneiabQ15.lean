import Derived.Test.YtoiconebcmneiabQ12
import Derived.Test.YtoiconebcmneiabQ11
import Derived.Test.YtoiconebcmneiabQ5
import Derived.Test.YtoiconebcmneiabQ9
import Derived.Test.YtoiconebcmneiabQ14

section
/- The numbers of the examples with which each statement begins. -/
namespace Go.Proofs.Ytoiconebcmneiab
open Go.RowKit

def treeL : List Rk := [⟨⟨#[116, 111, 112]⟩, ⟨#[97]⟩, ⟨#[98]⟩, 1, 2⟩, ⟨⟨#[97]⟩, ⟨#[112]⟩, ⟨#[113]⟩, 1, 1⟩, ⟨⟨#[98]⟩, ⟨#[114]⟩, ⟨#[115]⟩, 3, 1⟩]

theorem treeL_open : openErr treeL = 0 := by kernel_rfl
theorem treeL_pts : ptsOf treeL = some [⟨#[112]⟩, ⟨#[113]⟩, ⟨#[114]⟩, ⟨#[115]⟩] := by kernel_rfl
theorem treeL_shares : sharesOf treeL = some [(1, 3), (1, 3), (1, 12), (1, 4)] := by kernel_rfl
theorem awake_returns : returnsF [(10, 40), (20, 30)] = (12, 0) := by kernel_rfl
theorem aw_row0 : rowF 355 113 1 100 (1 + ((0 : Nat) : Int)) (1, 1) = (1, 1) := by kernel_rfl
theorem aw_row1 : rowF 355 113 1 100 (1 + ((1 : Nat) : Int)) (1, 1) = (2, 1) := by kernel_rfl
theorem aw_row2 : rowF 355 113 1 100 (1 + ((2 : Nat) : Int)) (2, 1) = (3, 1) := by kernel_rfl
theorem aw_row3 : rowF 355 113 1 100 (1 + ((3 : Nat) : Int)) (3, 1) = (3, 1) := by kernel_rfl
theorem aw_row4 : rowF 355 113 1 100 (1 + ((4 : Nat) : Int)) (3, 1) = (3, 1) := by kernel_rfl
theorem aw_row5 : rowF 355 113 1 100 (1 + ((5 : Nat) : Int)) (3, 1) = (3, 1) := by kernel_rfl
theorem aw_row6 : rowF 355 113 1 100 (1 + ((6 : Nat) : Int)) (3, 1) = (3, 1) := by kernel_rfl
theorem aw_row7 : rowF 355 113 1 100 (1 + ((7 : Nat) : Int)) (3, 1) = (3, 1) := by kernel_rfl
theorem aw_row8 : rowF 355 113 1 100 (1 + ((8 : Nat) : Int)) (3, 1) = (3, 1) := by kernel_rfl
theorem aw_row9 : rowF 355 113 1 100 (1 + ((9 : Nat) : Int)) (3, 1) = (3, 1) := by kernel_rfl
theorem aw_row10 : rowF 355 113 1 100 (1 + ((10 : Nat) : Int)) (3, 1) = (3, 1) := by kernel_rfl
theorem aw_row11 : rowF 355 113 1 100 (1 + ((11 : Nat) : Int)) (3, 1) = (3, 1) := by kernel_rfl
theorem aw_row12 : rowF 355 113 1 100 (1 + ((12 : Nat) : Int)) (3, 1) = (13, 4) := by kernel_rfl
theorem aw_row13 : rowF 355 113 1 100 (1 + ((13 : Nat) : Int)) (13, 4) = (13, 4) := by kernel_rfl
theorem aw_row14 : rowF 355 113 1 100 (1 + ((14 : Nat) : Int)) (13, 4) = (13, 4) := by kernel_rfl
theorem aw_row15 : rowF 355 113 1 100 (1 + ((15 : Nat) : Int)) (13, 4) = (16, 5) := by kernel_rfl
theorem aw_row16 : rowF 355 113 1 100 (1 + ((16 : Nat) : Int)) (16, 5) = (16, 5) := by kernel_rfl
theorem aw_row17 : rowF 355 113 1 100 (1 + ((17 : Nat) : Int)) (16, 5) = (16, 5) := by kernel_rfl
theorem aw_row18 : rowF 355 113 1 100 (1 + ((18 : Nat) : Int)) (16, 5) = (19, 6) := by kernel_rfl
theorem aw_row19 : rowF 355 113 1 100 (1 + ((19 : Nat) : Int)) (19, 6) = (19, 6) := by kernel_rfl
theorem aw_row20 : rowF 355 113 1 100 (1 + ((20 : Nat) : Int)) (19, 6) = (19, 6) := by kernel_rfl
theorem aw_row21 : rowF 355 113 1 100 (1 + ((21 : Nat) : Int)) (19, 6) = (22, 7) := by kernel_rfl
theorem aw_row22 : rowF 355 113 1 100 (1 + ((22 : Nat) : Int)) (22, 7) = (22, 7) := by kernel_rfl
theorem aw_row23 : rowF 355 113 1 100 (1 + ((23 : Nat) : Int)) (22, 7) = (22, 7) := by kernel_rfl
theorem aw_row24 : rowF 355 113 1 100 (1 + ((24 : Nat) : Int)) (22, 7) = (22, 7) := by kernel_rfl
theorem aw_row25 : rowF 355 113 1 100 (1 + ((25 : Nat) : Int)) (22, 7) = (22, 7) := by kernel_rfl
theorem aw_row26 : rowF 355 113 1 100 (1 + ((26 : Nat) : Int)) (22, 7) = (22, 7) := by kernel_rfl
theorem aw_row27 : rowF 355 113 1 100 (1 + ((27 : Nat) : Int)) (22, 7) = (22, 7) := by kernel_rfl
theorem aw_row28 : rowF 355 113 1 100 (1 + ((28 : Nat) : Int)) (22, 7) = (22, 7) := by kernel_rfl
theorem aw_row29 : rowF 355 113 1 100 (1 + ((29 : Nat) : Int)) (22, 7) = (22, 7) := by kernel_rfl
theorem aw_row30 : rowF 355 113 1 100 (1 + ((30 : Nat) : Int)) (22, 7) = (22, 7) := by kernel_rfl
theorem aw_row31 : rowF 355 113 1 100 (1 + ((31 : Nat) : Int)) (22, 7) = (22, 7) := by kernel_rfl
theorem aw_row32 : rowF 355 113 1 100 (1 + ((32 : Nat) : Int)) (22, 7) = (22, 7) := by kernel_rfl
theorem aw_row33 : rowF 355 113 1 100 (1 + ((33 : Nat) : Int)) (22, 7) = (22, 7) := by kernel_rfl
theorem aw_row34 : rowF 355 113 1 100 (1 + ((34 : Nat) : Int)) (22, 7) = (22, 7) := by kernel_rfl
theorem aw_row35 : rowF 355 113 1 100 (1 + ((35 : Nat) : Int)) (22, 7) = (22, 7) := by kernel_rfl
theorem aw_row36 : rowF 355 113 1 100 (1 + ((36 : Nat) : Int)) (22, 7) = (22, 7) := by kernel_rfl
theorem aw_row37 : rowF 355 113 1 100 (1 + ((37 : Nat) : Int)) (22, 7) = (22, 7) := by kernel_rfl
theorem aw_row38 : rowF 355 113 1 100 (1 + ((38 : Nat) : Int)) (22, 7) = (22, 7) := by kernel_rfl
theorem aw_row39 : rowF 355 113 1 100 (1 + ((39 : Nat) : Int)) (22, 7) = (22, 7) := by kernel_rfl
theorem aw_row40 : rowF 355 113 1 100 (1 + ((40 : Nat) : Int)) (22, 7) = (22, 7) := by kernel_rfl
theorem aw_row41 : rowF 355 113 1 100 (1 + ((41 : Nat) : Int)) (22, 7) = (22, 7) := by kernel_rfl
theorem aw_row42 : rowF 355 113 1 100 (1 + ((42 : Nat) : Int)) (22, 7) = (22, 7) := by kernel_rfl
theorem aw_row43 : rowF 355 113 1 100 (1 + ((43 : Nat) : Int)) (22, 7) = (22, 7) := by kernel_rfl
theorem aw_row44 : rowF 355 113 1 100 (1 + ((44 : Nat) : Int)) (22, 7) = (22, 7) := by kernel_rfl
theorem aw_row45 : rowF 355 113 1 100 (1 + ((45 : Nat) : Int)) (22, 7) = (22, 7) := by kernel_rfl
theorem aw_row46 : rowF 355 113 1 100 (1 + ((46 : Nat) : Int)) (22, 7) = (22, 7) := by kernel_rfl
theorem aw_row47 : rowF 355 113 1 100 (1 + ((47 : Nat) : Int)) (22, 7) = (22, 7) := by kernel_rfl
theorem aw_row48 : rowF 355 113 1 100 (1 + ((48 : Nat) : Int)) (22, 7) = (22, 7) := by kernel_rfl
theorem aw_row49 : rowF 355 113 1 100 (1 + ((49 : Nat) : Int)) (22, 7) = (22, 7) := by kernel_rfl
theorem aw_row50 : rowF 355 113 1 100 (1 + ((50 : Nat) : Int)) (22, 7) = (22, 7) := by kernel_rfl
theorem aw_row51 : rowF 355 113 1 100 (1 + ((51 : Nat) : Int)) (22, 7) = (22, 7) := by kernel_rfl
theorem aw_row52 : rowF 355 113 1 100 (1 + ((52 : Nat) : Int)) (22, 7) = (22, 7) := by kernel_rfl
theorem aw_row53 : rowF 355 113 1 100 (1 + ((53 : Nat) : Int)) (22, 7) = (22, 7) := by kernel_rfl
theorem aw_row54 : rowF 355 113 1 100 (1 + ((54 : Nat) : Int)) (22, 7) = (22, 7) := by kernel_rfl
theorem aw_row55 : rowF 355 113 1 100 (1 + ((55 : Nat) : Int)) (22, 7) = (22, 7) := by kernel_rfl
theorem aw_row56 : rowF 355 113 1 100 (1 + ((56 : Nat) : Int)) (22, 7) = (22, 7) := by kernel_rfl
theorem aw_row57 : rowF 355 113 1 100 (1 + ((57 : Nat) : Int)) (22, 7) = (22, 7) := by kernel_rfl
theorem aw_row58 : rowF 355 113 1 100 (1 + ((58 : Nat) : Int)) (22, 7) = (22, 7) := by kernel_rfl
theorem aw_row59 : rowF 355 113 1 100 (1 + ((59 : Nat) : Int)) (22, 7) = (22, 7) := by kernel_rfl
theorem aw_row60 : rowF 355 113 1 100 (1 + ((60 : Nat) : Int)) (22, 7) = (22, 7) := by kernel_rfl
theorem aw_row61 : rowF 355 113 1 100 (1 + ((61 : Nat) : Int)) (22, 7) = (22, 7) := by kernel_rfl
theorem aw_row62 : rowF 355 113 1 100 (1 + ((62 : Nat) : Int)) (22, 7) = (22, 7) := by kernel_rfl
theorem aw_row63 : rowF 355 113 1 100 (1 + ((63 : Nat) : Int)) (22, 7) = (22, 7) := by kernel_rfl
theorem aw_row64 : rowF 355 113 1 100 (1 + ((64 : Nat) : Int)) (22, 7) = (22, 7) := by kernel_rfl
theorem aw_row65 : rowF 355 113 1 100 (1 + ((65 : Nat) : Int)) (22, 7) = (22, 7) := by kernel_rfl
theorem aw_row66 : rowF 355 113 1 100 (1 + ((66 : Nat) : Int)) (22, 7) = (22, 7) := by kernel_rfl
theorem aw_row67 : rowF 355 113 1 100 (1 + ((67 : Nat) : Int)) (22, 7) = (22, 7) := by kernel_rfl
theorem aw_row68 : rowF 355 113 1 100 (1 + ((68 : Nat) : Int)) (22, 7) = (22, 7) := by kernel_rfl
theorem aw_row69 : rowF 355 113 1 100 (1 + ((69 : Nat) : Int)) (22, 7) = (22, 7) := by kernel_rfl
theorem aw_row70 : rowF 355 113 1 100 (1 + ((70 : Nat) : Int)) (22, 7) = (22, 7) := by kernel_rfl
theorem aw_row71 : rowF 355 113 1 100 (1 + ((71 : Nat) : Int)) (22, 7) = (22, 7) := by kernel_rfl
theorem aw_row72 : rowF 355 113 1 100 (1 + ((72 : Nat) : Int)) (22, 7) = (22, 7) := by kernel_rfl
theorem aw_row73 : rowF 355 113 1 100 (1 + ((73 : Nat) : Int)) (22, 7) = (22, 7) := by kernel_rfl
theorem aw_row74 : rowF 355 113 1 100 (1 + ((74 : Nat) : Int)) (22, 7) = (22, 7) := by kernel_rfl
theorem aw_row75 : rowF 355 113 1 100 (1 + ((75 : Nat) : Int)) (22, 7) = (22, 7) := by kernel_rfl
theorem aw_row76 : rowF 355 113 1 100 (1 + ((76 : Nat) : Int)) (22, 7) = (22, 7) := by kernel_rfl
theorem aw_row77 : rowF 355 113 1 100 (1 + ((77 : Nat) : Int)) (22, 7) = (22, 7) := by kernel_rfl
theorem aw_row78 : rowF 355 113 1 100 (1 + ((78 : Nat) : Int)) (22, 7) = (22, 7) := by kernel_rfl
theorem aw_row79 : rowF 355 113 1 100 (1 + ((79 : Nat) : Int)) (22, 7) = (22, 7) := by kernel_rfl
theorem aw_row80 : rowF 355 113 1 100 (1 + ((80 : Nat) : Int)) (22, 7) = (22, 7) := by kernel_rfl
theorem aw_row81 : rowF 355 113 1 100 (1 + ((81 : Nat) : Int)) (22, 7) = (22, 7) := by kernel_rfl
theorem aw_row82 : rowF 355 113 1 100 (1 + ((82 : Nat) : Int)) (22, 7) = (22, 7) := by kernel_rfl
theorem aw_row83 : rowF 355 113 1 100 (1 + ((83 : Nat) : Int)) (22, 7) = (22, 7) := by kernel_rfl
theorem aw_row84 : rowF 355 113 1 100 (1 + ((84 : Nat) : Int)) (22, 7) = (22, 7) := by kernel_rfl
theorem aw_row85 : rowF 355 113 1 100 (1 + ((85 : Nat) : Int)) (22, 7) = (22, 7) := by kernel_rfl
theorem aw_row86 : rowF 355 113 1 100 (1 + ((86 : Nat) : Int)) (22, 7) = (22, 7) := by kernel_rfl
theorem aw_row87 : rowF 355 113 1 100 (1 + ((87 : Nat) : Int)) (22, 7) = (22, 7) := by kernel_rfl
theorem aw_row88 : rowF 355 113 1 100 (1 + ((88 : Nat) : Int)) (22, 7) = (22, 7) := by kernel_rfl
theorem aw_row89 : rowF 355 113 1 100 (1 + ((89 : Nat) : Int)) (22, 7) = (22, 7) := by kernel_rfl
theorem aw_row90 : rowF 355 113 1 100 (1 + ((90 : Nat) : Int)) (22, 7) = (22, 7) := by kernel_rfl
theorem aw_row91 : rowF 355 113 1 100 (1 + ((91 : Nat) : Int)) (22, 7) = (22, 7) := by kernel_rfl
theorem aw_row92 : rowF 355 113 1 100 (1 + ((92 : Nat) : Int)) (22, 7) = (22, 7) := by kernel_rfl
theorem aw_row93 : rowF 355 113 1 100 (1 + ((93 : Nat) : Int)) (22, 7) = (22, 7) := by kernel_rfl
theorem aw_row94 : rowF 355 113 1 100 (1 + ((94 : Nat) : Int)) (22, 7) = (22, 7) := by kernel_rfl
theorem aw_row95 : rowF 355 113 1 100 (1 + ((95 : Nat) : Int)) (22, 7) = (22, 7) := by kernel_rfl
theorem aw_row96 : rowF 355 113 1 100 (1 + ((96 : Nat) : Int)) (22, 7) = (22, 7) := by kernel_rfl
theorem aw_row97 : rowF 355 113 1 100 (1 + ((97 : Nat) : Int)) (22, 7) = (22, 7) := by kernel_rfl
theorem aw_row98 : rowF 355 113 1 100 (1 + ((98 : Nat) : Int)) (22, 7) = (22, 7) := by kernel_rfl
theorem aw_row99 : rowF 355 113 1 100 (1 + ((99 : Nat) : Int)) (22, 7) = (22, 7) := by kernel_rfl
theorem aw_at0 : bestF 355 113 1 100 0 = (1, 1) := by kernel_rfl
theorem aw_at1 : bestF 355 113 1 100 1 = (1, 1) := by rw [bestF_succ, aw_at0]; exact aw_row0
theorem aw_at2 : bestF 355 113 1 100 2 = (2, 1) := by rw [bestF_succ, aw_at1]; exact aw_row1
theorem aw_at3 : bestF 355 113 1 100 3 = (3, 1) := by rw [bestF_succ, aw_at2]; exact aw_row2
theorem aw_at4 : bestF 355 113 1 100 4 = (3, 1) := by rw [bestF_succ, aw_at3]; exact aw_row3
theorem aw_at5 : bestF 355 113 1 100 5 = (3, 1) := by rw [bestF_succ, aw_at4]; exact aw_row4
theorem aw_at6 : bestF 355 113 1 100 6 = (3, 1) := by rw [bestF_succ, aw_at5]; exact aw_row5
theorem aw_at7 : bestF 355 113 1 100 7 = (3, 1) := by rw [bestF_succ, aw_at6]; exact aw_row6
theorem aw_at8 : bestF 355 113 1 100 8 = (3, 1) := by rw [bestF_succ, aw_at7]; exact aw_row7
theorem aw_at9 : bestF 355 113 1 100 9 = (3, 1) := by rw [bestF_succ, aw_at8]; exact aw_row8
theorem aw_at10 : bestF 355 113 1 100 10 = (3, 1) := by rw [bestF_succ, aw_at9]; exact aw_row9
theorem aw_at11 : bestF 355 113 1 100 11 = (3, 1) := by rw [bestF_succ, aw_at10]; exact aw_row10
theorem aw_at12 : bestF 355 113 1 100 12 = (3, 1) := by rw [bestF_succ, aw_at11]; exact aw_row11
theorem aw_at13 : bestF 355 113 1 100 13 = (13, 4) := by rw [bestF_succ, aw_at12]; exact aw_row12
theorem aw_at14 : bestF 355 113 1 100 14 = (13, 4) := by rw [bestF_succ, aw_at13]; exact aw_row13
theorem aw_at15 : bestF 355 113 1 100 15 = (13, 4) := by rw [bestF_succ, aw_at14]; exact aw_row14
theorem aw_at16 : bestF 355 113 1 100 16 = (16, 5) := by rw [bestF_succ, aw_at15]; exact aw_row15
theorem aw_at17 : bestF 355 113 1 100 17 = (16, 5) := by rw [bestF_succ, aw_at16]; exact aw_row16
theorem aw_at18 : bestF 355 113 1 100 18 = (16, 5) := by rw [bestF_succ, aw_at17]; exact aw_row17
theorem aw_at19 : bestF 355 113 1 100 19 = (19, 6) := by rw [bestF_succ, aw_at18]; exact aw_row18
theorem aw_at20 : bestF 355 113 1 100 20 = (19, 6) := by rw [bestF_succ, aw_at19]; exact aw_row19
theorem aw_at21 : bestF 355 113 1 100 21 = (19, 6) := by rw [bestF_succ, aw_at20]; exact aw_row20
theorem aw_at22 : bestF 355 113 1 100 22 = (22, 7) := by rw [bestF_succ, aw_at21]; exact aw_row21
theorem aw_at23 : bestF 355 113 1 100 23 = (22, 7) := by rw [bestF_succ, aw_at22]; exact aw_row22
theorem aw_at24 : bestF 355 113 1 100 24 = (22, 7) := by rw [bestF_succ, aw_at23]; exact aw_row23
theorem aw_at25 : bestF 355 113 1 100 25 = (22, 7) := by rw [bestF_succ, aw_at24]; exact aw_row24
theorem aw_at26 : bestF 355 113 1 100 26 = (22, 7) := by rw [bestF_succ, aw_at25]; exact aw_row25
theorem aw_at27 : bestF 355 113 1 100 27 = (22, 7) := by rw [bestF_succ, aw_at26]; exact aw_row26
theorem aw_at28 : bestF 355 113 1 100 28 = (22, 7) := by rw [bestF_succ, aw_at27]; exact aw_row27
theorem aw_at29 : bestF 355 113 1 100 29 = (22, 7) := by rw [bestF_succ, aw_at28]; exact aw_row28
theorem aw_at30 : bestF 355 113 1 100 30 = (22, 7) := by rw [bestF_succ, aw_at29]; exact aw_row29
theorem aw_at31 : bestF 355 113 1 100 31 = (22, 7) := by rw [bestF_succ, aw_at30]; exact aw_row30
theorem aw_at32 : bestF 355 113 1 100 32 = (22, 7) := by rw [bestF_succ, aw_at31]; exact aw_row31
theorem aw_at33 : bestF 355 113 1 100 33 = (22, 7) := by rw [bestF_succ, aw_at32]; exact aw_row32
theorem aw_at34 : bestF 355 113 1 100 34 = (22, 7) := by rw [bestF_succ, aw_at33]; exact aw_row33
theorem aw_at35 : bestF 355 113 1 100 35 = (22, 7) := by rw [bestF_succ, aw_at34]; exact aw_row34
theorem aw_at36 : bestF 355 113 1 100 36 = (22, 7) := by rw [bestF_succ, aw_at35]; exact aw_row35
theorem aw_at37 : bestF 355 113 1 100 37 = (22, 7) := by rw [bestF_succ, aw_at36]; exact aw_row36
theorem aw_at38 : bestF 355 113 1 100 38 = (22, 7) := by rw [bestF_succ, aw_at37]; exact aw_row37
theorem aw_at39 : bestF 355 113 1 100 39 = (22, 7) := by rw [bestF_succ, aw_at38]; exact aw_row38
theorem aw_at40 : bestF 355 113 1 100 40 = (22, 7) := by rw [bestF_succ, aw_at39]; exact aw_row39
theorem aw_at41 : bestF 355 113 1 100 41 = (22, 7) := by rw [bestF_succ, aw_at40]; exact aw_row40
theorem aw_at42 : bestF 355 113 1 100 42 = (22, 7) := by rw [bestF_succ, aw_at41]; exact aw_row41
theorem aw_at43 : bestF 355 113 1 100 43 = (22, 7) := by rw [bestF_succ, aw_at42]; exact aw_row42
theorem aw_at44 : bestF 355 113 1 100 44 = (22, 7) := by rw [bestF_succ, aw_at43]; exact aw_row43
theorem aw_at45 : bestF 355 113 1 100 45 = (22, 7) := by rw [bestF_succ, aw_at44]; exact aw_row44
theorem aw_at46 : bestF 355 113 1 100 46 = (22, 7) := by rw [bestF_succ, aw_at45]; exact aw_row45
theorem aw_at47 : bestF 355 113 1 100 47 = (22, 7) := by rw [bestF_succ, aw_at46]; exact aw_row46
theorem aw_at48 : bestF 355 113 1 100 48 = (22, 7) := by rw [bestF_succ, aw_at47]; exact aw_row47
theorem aw_at49 : bestF 355 113 1 100 49 = (22, 7) := by rw [bestF_succ, aw_at48]; exact aw_row48
theorem aw_at50 : bestF 355 113 1 100 50 = (22, 7) := by rw [bestF_succ, aw_at49]; exact aw_row49
theorem aw_at51 : bestF 355 113 1 100 51 = (22, 7) := by rw [bestF_succ, aw_at50]; exact aw_row50
theorem aw_at52 : bestF 355 113 1 100 52 = (22, 7) := by rw [bestF_succ, aw_at51]; exact aw_row51
theorem aw_at53 : bestF 355 113 1 100 53 = (22, 7) := by rw [bestF_succ, aw_at52]; exact aw_row52
theorem aw_at54 : bestF 355 113 1 100 54 = (22, 7) := by rw [bestF_succ, aw_at53]; exact aw_row53
theorem aw_at55 : bestF 355 113 1 100 55 = (22, 7) := by rw [bestF_succ, aw_at54]; exact aw_row54
theorem aw_at56 : bestF 355 113 1 100 56 = (22, 7) := by rw [bestF_succ, aw_at55]; exact aw_row55
theorem aw_at57 : bestF 355 113 1 100 57 = (22, 7) := by rw [bestF_succ, aw_at56]; exact aw_row56
theorem aw_at58 : bestF 355 113 1 100 58 = (22, 7) := by rw [bestF_succ, aw_at57]; exact aw_row57
theorem aw_at59 : bestF 355 113 1 100 59 = (22, 7) := by rw [bestF_succ, aw_at58]; exact aw_row58
theorem aw_at60 : bestF 355 113 1 100 60 = (22, 7) := by rw [bestF_succ, aw_at59]; exact aw_row59
theorem aw_at61 : bestF 355 113 1 100 61 = (22, 7) := by rw [bestF_succ, aw_at60]; exact aw_row60
theorem aw_at62 : bestF 355 113 1 100 62 = (22, 7) := by rw [bestF_succ, aw_at61]; exact aw_row61
theorem aw_at63 : bestF 355 113 1 100 63 = (22, 7) := by rw [bestF_succ, aw_at62]; exact aw_row62
theorem aw_at64 : bestF 355 113 1 100 64 = (22, 7) := by rw [bestF_succ, aw_at63]; exact aw_row63
theorem aw_at65 : bestF 355 113 1 100 65 = (22, 7) := by rw [bestF_succ, aw_at64]; exact aw_row64
theorem aw_at66 : bestF 355 113 1 100 66 = (22, 7) := by rw [bestF_succ, aw_at65]; exact aw_row65
theorem aw_at67 : bestF 355 113 1 100 67 = (22, 7) := by rw [bestF_succ, aw_at66]; exact aw_row66
theorem aw_at68 : bestF 355 113 1 100 68 = (22, 7) := by rw [bestF_succ, aw_at67]; exact aw_row67
theorem aw_at69 : bestF 355 113 1 100 69 = (22, 7) := by rw [bestF_succ, aw_at68]; exact aw_row68
theorem aw_at70 : bestF 355 113 1 100 70 = (22, 7) := by rw [bestF_succ, aw_at69]; exact aw_row69
theorem aw_at71 : bestF 355 113 1 100 71 = (22, 7) := by rw [bestF_succ, aw_at70]; exact aw_row70
theorem aw_at72 : bestF 355 113 1 100 72 = (22, 7) := by rw [bestF_succ, aw_at71]; exact aw_row71
theorem aw_at73 : bestF 355 113 1 100 73 = (22, 7) := by rw [bestF_succ, aw_at72]; exact aw_row72
theorem aw_at74 : bestF 355 113 1 100 74 = (22, 7) := by rw [bestF_succ, aw_at73]; exact aw_row73
theorem aw_at75 : bestF 355 113 1 100 75 = (22, 7) := by rw [bestF_succ, aw_at74]; exact aw_row74
theorem aw_at76 : bestF 355 113 1 100 76 = (22, 7) := by rw [bestF_succ, aw_at75]; exact aw_row75
theorem aw_at77 : bestF 355 113 1 100 77 = (22, 7) := by rw [bestF_succ, aw_at76]; exact aw_row76
theorem aw_at78 : bestF 355 113 1 100 78 = (22, 7) := by rw [bestF_succ, aw_at77]; exact aw_row77
theorem aw_at79 : bestF 355 113 1 100 79 = (22, 7) := by rw [bestF_succ, aw_at78]; exact aw_row78
theorem aw_at80 : bestF 355 113 1 100 80 = (22, 7) := by rw [bestF_succ, aw_at79]; exact aw_row79
theorem aw_at81 : bestF 355 113 1 100 81 = (22, 7) := by rw [bestF_succ, aw_at80]; exact aw_row80
theorem aw_at82 : bestF 355 113 1 100 82 = (22, 7) := by rw [bestF_succ, aw_at81]; exact aw_row81
theorem aw_at83 : bestF 355 113 1 100 83 = (22, 7) := by rw [bestF_succ, aw_at82]; exact aw_row82
theorem aw_at84 : bestF 355 113 1 100 84 = (22, 7) := by rw [bestF_succ, aw_at83]; exact aw_row83
theorem aw_at85 : bestF 355 113 1 100 85 = (22, 7) := by rw [bestF_succ, aw_at84]; exact aw_row84
theorem aw_at86 : bestF 355 113 1 100 86 = (22, 7) := by rw [bestF_succ, aw_at85]; exact aw_row85
theorem aw_at87 : bestF 355 113 1 100 87 = (22, 7) := by rw [bestF_succ, aw_at86]; exact aw_row86
theorem aw_at88 : bestF 355 113 1 100 88 = (22, 7) := by rw [bestF_succ, aw_at87]; exact aw_row87
theorem aw_at89 : bestF 355 113 1 100 89 = (22, 7) := by rw [bestF_succ, aw_at88]; exact aw_row88
theorem aw_at90 : bestF 355 113 1 100 90 = (22, 7) := by rw [bestF_succ, aw_at89]; exact aw_row89
theorem aw_at91 : bestF 355 113 1 100 91 = (22, 7) := by rw [bestF_succ, aw_at90]; exact aw_row90
theorem aw_at92 : bestF 355 113 1 100 92 = (22, 7) := by rw [bestF_succ, aw_at91]; exact aw_row91
theorem aw_at93 : bestF 355 113 1 100 93 = (22, 7) := by rw [bestF_succ, aw_at92]; exact aw_row92
theorem aw_at94 : bestF 355 113 1 100 94 = (22, 7) := by rw [bestF_succ, aw_at93]; exact aw_row93
theorem aw_at95 : bestF 355 113 1 100 95 = (22, 7) := by rw [bestF_succ, aw_at94]; exact aw_row94
theorem aw_at96 : bestF 355 113 1 100 96 = (22, 7) := by rw [bestF_succ, aw_at95]; exact aw_row95
theorem aw_at97 : bestF 355 113 1 100 97 = (22, 7) := by rw [bestF_succ, aw_at96]; exact aw_row96
theorem aw_at98 : bestF 355 113 1 100 98 = (22, 7) := by rw [bestF_succ, aw_at97]; exact aw_row97
theorem aw_at99 : bestF 355 113 1 100 99 = (22, 7) := by rw [bestF_succ, aw_at98]; exact aw_row98
theorem aw_at100 : bestF 355 113 1 100 100 = (22, 7) := by rw [bestF_succ, aw_at99]; exact aw_row99
theorem awake_best : bestP 355 113 1 100 = (22, 7) := aw_at100

end Go.Proofs.Ytoiconebcmneiab

end

section
/- The examples with which each statement begins are so. -/
namespace Go.Proofs.Ytoiconebcmneiab
open Go.RowKit

theorem tree_any (w : World) : Calls Try.prog 42 #[] w fun e w' => e = .returned (.slice (some ⟨w.heap.size, 0, none⟩) 3 3) ∧ w' = w.alloc (.cells (rkCells treeL).toArray 90) := by
  go_enter Try.func42, Try.ntmps42
  go_wp2
  go_ret
  exact ⟨rfl, rfl⟩

theorem treeL_fits : ∀ r ∈ treeL, r.Fits := by
  intro r hr
  simp only [treeL, List.mem_cons, List.not_mem_nil, or_false] at hr
  rcases hr with rfl | rfl | rfl <;> exact ⟨by decide, by decide, by decide⟩

theorem awake_shares (A : Option Addr) (N : Nat) (w : World) (hx : Reads w N 5 A 3 (rkCells treeL)) (hN : N ≤ w.heap.size) :
    Calls Try.prog 24 #[.slice A 3 3] w fun e w' => ∃ B c, e = .returned (.tuple #[.slice B 4 c, .int .i64 0]) ∧ Below w.heap.size w w' ∧ Reads w' w'.heap.size 2 B 4 (cells2 [(1, 3), (1, 3), (1, 12), (1, 4)]) :=
  (Shares_any treeL treeL_fits A 3 3 N w (by decide) hx hN (fun _ => ⟨_, treeL_pts, by decide⟩)).mono fun e w' ⟨hb, _, _, h⟩ => by
    obtain ⟨v, he, ho⟩ := h treeL_open _ treeL_shares
    obtain ⟨B, c, rfl, hr⟩ := own_reads ho
    exact ⟨B, c, he, hb, hr⟩

theorem awake_back (A : Option Addr) (N : Nat) (w : World) (hx : Reads w N 2 A 2 (cells2 [(10, 40), (20, 30)])) (hN : N ≤ w.heap.size) :
    Calls Try.prog 32 #[.slice A 2 2] w fun e w' => e = .returned (.tuple #[.int .i64 12, .int .i64 0]) ∧ Below w.heap.size w w' :=
  (returns_any A 2 2 N _ w hx hN (by decide)).mono fun e w' ⟨he, hb⟩ => ⟨by rw [he, awake_returns], hb⟩

theorem awake_pair (w : World) : Calls Try.prog 43 #[.agg #[.int .i64 355, .int .i64 113], .int .i64 1, .int .i64 100] w fun e w' => e = .returned (.tuple #[.agg #[.int .i64 22, .int .i64 7], .int .i64 0]) ∧ Below w.heap.size w w' :=
  (bestpair_any 355 113 1 100 w (by decide) (by decide) (by decide) (by decide)).mono fun e w' ⟨hb, _, h⟩ => ⟨by rw [h (by kernel_rfl), awake_best], hb⟩

theorem awake_any (w : World) : Calls Try.prog 8 #[] w fun e w' => e = .returned (.bool true) ∧ Below w.heap.size w w' := by
  go_enter Try.func8, Try.ntmps8
  go_wp2_with (first | (go_at_call 42; refine (tree_any _).mono ?_; rintro e w1 ⟨rfl, rfl⟩))
  refine (awake_shares _ _ _ (Blk.reads (n := 3) (size := 5) (Blk.at_ w rfl _ _) (by kernel_rfl)) (Nat.le_refl _)).mono ?_
  rintro e w1 ⟨B, c, rfl, hb1, hr1⟩
  have hb1' : Below w.heap.size w w1 := ((Below.refl _ _).alloc (Nat.le_refl _) _).trans (hb1.mono (by simp))
  have HB1 := Lib.hid hb1'
  have HR1 := Lib.hid hr1
  clear hb1 hb1' hr1
  go_wp2_with fail
  have hwant : Blk (w1.alloc (.cells #[.int .i64 1, .int .i64 3, .int .i64 1, .int .i64 3, .int .i64 1, .int .i64 12, .int .i64 1, .int .i64 4] 53)) w1.heap.size 53 #[.int .i64 1, .int .i64 3, .int .i64 1, .int .i64 3, .int .i64 1, .int .i64 12, .int .i64 1, .int .i64 4] := Blk.new _ _ _
  refine (awake_back _ _ _ (Blk.reads (n := 2) (size := 2) (Blk.at_ _ (by simp) _ _) (by kernel_rfl)) (Nat.le_refl _)).mono ?_
  rintro e w2 ⟨rfl, hb2⟩
  have hwant2 := (hwant.alloc (.cells #[.int .i64 10, .int .i64 40, .int .i64 20, .int .i64 30] 74)).below hb2 (by simp; omega)
  simp only [World.size_alloc] at hb2
  have hb2' : Below w1.heap.size w1 w2 := (((Below.refl _ _).alloc (Nat.le_refl _) _).alloc (by simp) _).trans (hb2.mono (by omega))
  have hz2 := hb2.size
  have HB2 := Lib.hid hb2'
  have HW2 := Lib.hid hwant2
  clear hb2 hb2' hwant hwant2
  go_wp2_with fail
  refine (awake_pair _).mono ?_
  rintro e w3 ⟨rfl, hb3⟩
  have hwant3 := HW2.out.below hb3 HW2.out.lt
  have hr3 := (HR1.out.belowLe HB2.out (Nat.le_refl _)).belowLe hb3 (HB2.out.size)
  have hz3 := hb3.size
  have HB3 := Lib.hid (HB1.out.trans ((HB2.out.mono HB1.out.size).trans (hb3.mono (Nat.le_trans HB1.out.size HB2.out.size))))
  have HR3 := Lib.hid hr3
  have HW3 := Lib.hid hwant3
  clear hwant3 hr3 hb3
  go_wp2_with fail
  have hW : Blk (w3.alloc (.cells #[.int .i64 22, .int .i64 7] 74)) w1.heap.size 53 _ := HW3.out.alloc _
  refine (fracs_any B (some ⟨w1.heap.size, 0, none⟩) c 4 4 4 [(1, 3), (1, 3), (1, 12), (1, 4)] [(1, 3), (1, 3), (1, 12), (1, 4)] _ (w3.alloc (.cells #[.int .i64 22, .int .i64 7] 74)).heap.size (Reads.more (HR3.out.alloc (by have := HB2.out.size; omega) _) (by have := HB2.out.size; simp; omega)) (Blk.reads (n := 4) (size := 2) hW (by kernel_rfl)) (by decide) (by decide)).mono ?_
  rintro e w4 ⟨rfl, q, rfl⟩
  have hg : Blk (w3.alloc (.cells #[.int .i64 22, .int .i64 7] 74)) w3.heap.size 74 #[.int .i64 22, .int .i64 7] := Blk.new _ _ _
  go_wp2
  go_ret
  exact ⟨rfl, below_drewN (HB3.out.alloc HB3.out.size _) _⟩

end Go.Proofs.Ytoiconebcmneiab

end

section
/- The walk of the statement on trees. -/
namespace Go.Proofs.Ytoiconebcmneiab
open Go.RowKit



theorem rchecktree_is (l : List Rk) (hf : ∀ r ∈ l, r.Fits) (A : Option Addr) (n c N : Nat) (E : Int) (hE : openErr l = E) (w : World) (hx : Reads w N 5 A n (rkCells l)) (hN : N ≤ w.heap.size) (hn : n ≤ 100000) (hnc : n ≤ c) (hcm : c ≤ 9223372036854775807) :
    Calls Try.prog 16 #[.slice A n c] w fun e w' => e = .returned (.int .i64 E) ∧ Below w.heap.size w w' := hE ▸ rchecktree_any l hf A n c N w hx hN hn hnc hcm



end Go.Proofs.Ytoiconebcmneiab

end

section
/- The walk of the statement on the check of shares. -/
namespace Go.Proofs.Ytoiconebcmneiab
open Go.RowKit




end Go.Proofs.Ytoiconebcmneiab

end

section
/- The walk of the statement on shares. -/
namespace Go.Proofs.Ytoiconebcmneiab
open Go.RowKit

/-- The shares of a tree are above 0, and valid fractions. -/
theorem sh_ok (l : List Rk) (harms : ArmsOK l) : ∀ (f : Nat) (s : ByteArray) (n d : Int) (ys : List (Int × Int)), Part n → Part d → fracErr n d = 0 → sh l f s n d = some ys → ∀ p ∈ ys, Part p.1 ∧ Part p.2 ∧ fracErr p.1 p.2 = 0 := by
  intro f
  induction f with
  | zero =>
    intro s n d ys hn hd he hs p hp
    unfold sh at hs
    obtain rfl := Option.some.inj hs
    simp at hp
    subst hp
    exact ⟨hn, hd, he⟩
  | succ f ih =>
    intro s n d ys hn hd he hs p hp
    unfold sh at hs
    cases hi : idxOf l s with
    | none =>
      rw [hi] at hs
      obtain rfl := Option.some.inj hs
      simp at hp
      subst hp
      exact ⟨hn, hd, he⟩
    | some i =>
      rw [hi] at hs
      simp only at hs
      cases hr : l[i]? with
      | none => rw [hr] at hs; cases hs
      | some r =>
        rw [hr] at hs
        simp only at hs
        obtain ⟨a1, a2, a3, a4⟩ := harms r (List.mem_of_getElem? hr)
        split at hs
        · rename_i hsm
          rw [Bool.and_eq_true] at hsm
          have m1 : 1 ≤ n * r.ar := Int.mul_pos (show (0 : Int) < n from hn.1) (show (0 : Int) < r.ar by omega)
          have m2 : 1 ≤ n * r.al := Int.mul_pos (show (0 : Int) < n from hn.1) (show (0 : Int) < r.al by omega)
          have m3 : 1 ≤ d * (r.al + r.ar) := Int.mul_pos (show (0 : Int) < d from hd.1) (show (0 : Int) < r.al + r.ar by omega)
          have P1 := red_part m1 m3 hsm.1
          have P2 := red_part m2 m3 hsm.2
          have E1 := (small_err m3).1 hsm.1
          have E2 := (small_err m3).1 hsm.2
          unfold join2 at hs
          split at hs
          · rename_i x y h1 h2
            obtain rfl := Option.some.inj hs
            rcases List.mem_append.1 hp with hp | hp
            · exact ih _ _ _ _ P1.1 P1.2 E1 h1 p hp
            · exact ih _ _ _ _ P2.1 P2.2 E2 h2 p hp
          · cases hs
        · cases hs

theorem shares_bad (l : List Rk) (hfits : ∀ r ∈ l, r.Fits) (A : Option Addr) (n c N : Nat) (E : Int) (w : World) (hn : n ≤ 100000) (hx : Reads w N 5 A n (rkCells l)) (hN : N ≤ w.heap.size) (hE : openErr l = E) (h0 : E ≠ 0) :
    Calls Try.prog 24 #[.slice A n c] w fun e w' => e = .returned (.tuple #[.slice none 0 0, .int .i64 E]) ∧ Below w.heap.size w w' :=
  (Shares_any l hfits A n c N w hn hx hN (fun h => absurd (hE.symm.trans h) h0)).mono fun e w' ⟨hb, h1, _⟩ => ⟨hE ▸ h1 (hE ▸ h0), hb⟩

theorem shares_none (l : List Rk) (hfits : ∀ r ∈ l, r.Fits) (A : Option Addr) (n c N : Nat) (ps : List ByteArray) (w : World) (hn : n ≤ 100000) (hx : Reads w N 5 A n (rkCells l)) (hN : N ≤ w.heap.size) (hE : openErr l = 0) (hp : ptsOf l = some ps) (hps : ps.length ≤ 1000000) (hs : sharesOf l = none) :
    Calls Try.prog 24 #[.slice A n c] w fun e w' => e = .returned (.tuple #[.slice none 0 0, .int .i64 8]) ∧ Below w.heap.size w w' :=
  (Shares_any l hfits A n c N w hn hx hN (fun _ => ⟨ps, hp, hps⟩)).mono fun e w' ⟨hb, _, h2, _⟩ => ⟨h2 hE hs, hb⟩

theorem shares_some (l : List Rk) (hfits : ∀ r ∈ l, r.Fits) (A : Option Addr) (n c N : Nat) (ps : List ByteArray) (ys : List (Int × Int)) (m : Nat) (hm : ys.length = m) (w : World) (hn : n ≤ 100000) (hx : Reads w N 5 A n (rkCells l)) (hN : N ≤ w.heap.size) (hE : openErr l = 0) (hp : ptsOf l = some ps) (hps : ps.length ≤ 1000000) (hs : sharesOf l = some ys) :
    Calls Try.prog 24 #[.slice A n c] w fun e w' => Below w.heap.size w w' ∧ ∃ A c, e = .returned (.tuple #[.slice A m c, .int .i64 0]) ∧ Reads w' w'.heap.size 2 A m (cells2 ys) :=
  (Shares_any l hfits A n c N w hn hx hN (fun _ => ⟨ps, hp, hps⟩)).mono fun e w' ⟨hb, _, _, h3⟩ => by
    obtain ⟨v, he, ho⟩ := h3 hE ys hs
    obtain ⟨A', c', rfl, hr⟩ := own_reads ho
    subst hm
    exact ⟨hb, A', c', he, hr⟩

theorem rshares_none (l : List Rk) (hfits : ∀ r ∈ l, r.Fits) (A : Option Addr) (n c N : Nat) (w : World) (hx : Reads w N 5 A n (rkCells l)) (hN : N ≤ w.heap.size) (hn : n ≤ 100000) (h0 : openErr l = 0) (ps : List ByteArray) (hp : ptsOf l = some ps) (hps : ps.length ≤ 1000000) (hs : sharesOf l = none) :
    Calls Try.prog 37 #[.slice A n c] w fun e w' => Below w.heap.size w w' ∧ ∃ A' c', e = .returned (.tuple #[.slice A' ps.length c', .bool false]) :=
  (rshares_any l hfits A n c N w hx hN hn h0 ps hp hps).mono fun e w' ⟨hb, A', c', he, _⟩ => ⟨hb, A', c', by rw [he, hs]; rfl⟩

theorem rshares_some (l : List Rk) (hfits : ∀ r ∈ l, r.Fits) (A : Option Addr) (n c N : Nat) (m : Nat) (ys : List (Int × Int)) (w : World) (hx : Reads w N 5 A n (rkCells l)) (hN : N ≤ w.heap.size) (hn : n ≤ 100000) (h0 : openErr l = 0) (ps : List ByteArray) (hp : ptsOf l = some ps) (hps : ps.length ≤ 1000000) (hs : sharesOf l = some ys) (hm : ps.length = m) :
    Calls Try.prog 37 #[.slice A n c] w fun e w' => Below w.heap.size w w' ∧ ∃ A' c', e = .returned (.tuple #[.slice A' m c', .bool true]) ∧ Reads w' w'.heap.size 2 A' m (cells2 ys) :=
  (rshares_any l hfits A n c N w hx hN hn h0 ps hp hps).mono fun e w' ⟨hb, A', c', he, hr⟩ => by
    subst hm
    exact ⟨hb, A', c', by rw [he, hs]; rfl, hr ys hs⟩


end Go.Proofs.Ytoiconebcmneiab

end

section
/- The plain law of deflections: the ranges of the rows of a table. -/
namespace Go.Proofs.Ytoiconebcmneiab
open Go.RowKit

/-- The shares are at most the whole. -/
theorem sh_le (l : List Rk) (harms : ArmsOK l) : ∀ (f : Nat) (s : ByteArray) (n d : Int) (ys : List (Int × Int)), 0 < n → n ≤ d → sh l f s n d = some ys → ∀ p ∈ ys, p.1 ≤ p.2 := by
  intro f
  induction f with
  | zero =>
    intro s n d ys h1 h2 hs p hp
    unfold sh at hs
    obtain rfl := Option.some.inj hs
    simp at hp
    subst hp
    exact h2
  | succ f ih =>
    intro s n d ys h1 h2 hs p hp
    unfold sh at hs
    cases hi : idxOf l s with
    | none =>
      rw [hi] at hs
      obtain rfl := Option.some.inj hs
      simp at hp
      subst hp
      exact h2
    | some i =>
      rw [hi] at hs
      simp only at hs
      cases hr : l[i]? with
      | none => rw [hr] at hs; cases hs
      | some r =>
        rw [hr] at hs
        simp only at hs
        obtain ⟨a1, a2, a3, a4⟩ := harms r (List.mem_of_getElem? hr)
        have key : ∀ a b : Int, 1 ≤ a → 1 ≤ b → 0 < redN (n * a) (d * (a + b)) ∧ redN (n * a) (d * (a + b)) ≤ redD (n * a) (d * (a + b)) := by
          intro a b ha hb
          have m1 : 0 < n * a := Int.mul_pos h1 (by omega)
          have m2 : n * a ≤ d * (a + b) := Int.mul_le_mul h2 (by omega) (by omega) (by omega)
          obtain ⟨e1, e2⟩ := red_mul (a := n * a) (b := d * (a + b)) (by omega)
          generalize n * a = x at *
          generalize d * (a + b) = y at *
          have p1 : 0 < redN x y := by
            have : 0 < redN x y * y := by rw [e1]; exact Int.mul_pos e2 m1
            exact Int.pos_of_mul_pos_left this (by omega)
          refine ⟨p1, ?_⟩
          rcases Int.lt_or_le (redD x y) (redN x y) with h | h
          · have q1 : redD x y * x < redN x y * x := Int.mul_lt_mul_of_pos_right h m1
            have q2 : redN x y * x ≤ redN x y * y := Int.mul_le_mul_of_nonneg_left m2 (by omega)
            omega
          · exact h
        split at hs
        · unfold join2 at hs
          split at hs
          · rename_i x y g1 g2
            obtain rfl := Option.some.inj hs
            have k1 := key r.ar r.al a3 a1
            have k2 := key r.al r.ar a1 a3
            rw [show r.ar + r.al = r.al + r.ar by omega] at k1
            rcases List.mem_append.1 hp with hp | hp
            · exact ih _ _ _ _ k1.1 k1.2 g1 p hp
            · exact ih _ _ _ _ k2.1 k2.2 g2 p hp
          · cases hs
        · cases hs

/-- What one point adds to a row's range. -/
def stepD (wt : Int) (s : Int × Int) (q : Int × (Int × Int)) : Int × Int := (s.1 + q.1 * wt * q.2.1 / q.2.2, s.2 + -((-(q.1 * wt * q.2.1)) / q.2.2))
def defl (wt : Int) (L : List (Int × (Int × Int))) : Int × Int := L.foldl (stepD wt) (0, 0)
theorem defl_snoc (wt : Int) (L : List (Int × (Int × Int))) (q : Int × (Int × Int)) : defl wt (L ++ [q]) = stepD wt (defl wt L) q := by unfold defl; rw [List.foldl_append]; rfl
theorem zip_take {α β : Type} {xs : List α} {ys : List β} {k : Nat} {x : α} {y : β} (hx : xs[k]? = some x) (hy : ys[k]? = some y) : (xs.zip ys).take (k + 1) = (xs.zip ys).take k ++ [(x, y)] := by
  rw [List.take_add_one, (List.getElem?_zip_eq_some (z := (x, y))).2 ⟨hx, hy⟩]
  rfl
theorem term_bound {z wt a b : Int} (hz : -10000 ≤ z ∧ z ≤ 10000) (hw : 0 ≤ wt ∧ wt ≤ 100000) (ha : 1 ≤ a) (hb : b ≤ 1000000000) (hab : a ≤ b) :
    (-1000000000 ≤ z * wt ∧ z * wt ≤ 1000000000) ∧ (-1000000000000000000 ≤ z * wt * a ∧ z * wt * a ≤ 1000000000000000000) ∧ (-1000000000 ≤ z * wt * a / b ∧ z * wt * a / b ≤ 1000000000) ∧ (-1000000000 ≤ -((-(z * wt * a)) / b) ∧ -((-(z * wt * a)) / b) ≤ 1000000000) := by
  have h1 : -1000000000 ≤ z * wt ∧ z * wt ≤ 1000000000 := by
    have p1 : z * wt ≤ 10000 * wt := Int.mul_le_mul_of_nonneg_right hz.2 hw.1
    have p2 : -10000 * wt ≤ z * wt := Int.mul_le_mul_of_nonneg_right hz.1 hw.1
    omega
  generalize z * wt = m at *
  have h2 : m * a ≤ 1000000000 * a := Int.mul_le_mul_of_nonneg_right h1.2 (by omega)
  have h3 : -1000000000 * a ≤ m * a := Int.mul_le_mul_of_nonneg_right h1.1 (by omega)
  generalize m * a = t at *
  have b0 : 0 < b := by omega
  have q1 : t / b ≤ 1000000000 := by
    have : t / b ≤ (1000000000 * b) / b := Int.ediv_le_ediv b0 (by omega)
    rwa [Int.mul_ediv_cancel _ (by omega)] at this
  have q2 : -1000000000 ≤ t / b := by
    have : (-1000000000 * b) / b ≤ t / b := Int.ediv_le_ediv b0 (by omega)
    rwa [Int.mul_ediv_cancel _ (by omega)] at this
  have q3 : (-t) / b ≤ 1000000000 := by
    have : (-t) / b ≤ (1000000000 * b) / b := Int.ediv_le_ediv b0 (by omega)
    rwa [Int.mul_ediv_cancel _ (by omega)] at this
  have q4 : -1000000000 ≤ (-t) / b := by
    have : (-1000000000 * b) / b ≤ (-t) / b := Int.ediv_le_ediv b0 (by omega)
    rwa [Int.mul_ediv_cancel _ (by omega)] at this
  exact ⟨h1, by omega, ⟨q2, q1⟩, by omega⟩
theorem defl_bound {wt : Int} (hw : 0 ≤ wt ∧ wt ≤ 100000) : ∀ (L : List (Int × (Int × Int))) (s : Int × Int), (∀ q ∈ L, (-10000 ≤ q.1 ∧ q.1 ≤ 10000) ∧ 1 ≤ q.2.1 ∧ q.2.2 ≤ 1000000000 ∧ q.2.1 ≤ q.2.2) →
    (s.1 - 1000000000 * L.length ≤ (L.foldl (stepD wt) s).1 ∧ (L.foldl (stepD wt) s).1 ≤ s.1 + 1000000000 * L.length) ∧ (s.2 - 1000000000 * L.length ≤ (L.foldl (stepD wt) s).2 ∧ (L.foldl (stepD wt) s).2 ≤ s.2 + 1000000000 * L.length)
  | [], s, _ => by simp
  | q :: L, s, h => by
    have h1 := defl_bound hw L (stepD wt s q) fun x hx => h x (by simp [hx])
    obtain ⟨g1, g2, g3, g4⟩ := h q (by simp)
    obtain ⟨-, -, t1, t2⟩ := term_bound (a := q.2.1) (b := q.2.2) g1 hw g2 g3 g4
    have e1 : (stepD wt s q).1 = s.1 + q.1 * wt * q.2.1 / q.2.2 := rfl
    have e2 : (stepD wt s q).2 = s.2 + -((-(q.1 * wt * q.2.1)) / q.2.2) := rfl
    rw [e1, e2] at h1
    rw [List.foldl_cons, List.length_cons]
    push_cast
    omega
/-- The ranges of the rows of a table. -/
def rowsD (wt : Int) (t : List TRow) (ys : List (Int × Int)) : List (Int × Int) := t.map fun r => defl wt (r.xs.zip ys)
/-- Errors of deflections, behind a sound table and a sound tree. -/
def deflErr (np : Nat) (t : List TRow) (wt : Int) (ss : Option (List (Int × Int))) : Int := if headLen t ≠ np then 10 else if withinB wt 0 100000 = false then 2 else if ss = none then 8 else 0

end Go.Proofs.Ytoiconebcmneiab

end

section
/- The contracts of Ratio and MeetAgain, of the program and of the reference, and of the reference's Returns. -/
namespace Go.Proofs.Ytoiconebcmneiab
open Go.RowKit

def lastF (L : List (Int × Int)) (s : Int × Int) : Int × Int := L.foldl (fun _ f => f) s
theorem last_get : ∀ (L : List (Int × Int)) (s : Int × Int) (n : Nat), L.length = n + 1 → L[n]? = some (lastF L s)
  | [a], s, n, h => by
    have : n = 0 := by simpa using h.symm
    subst this
    rfl
  | a :: b :: t, s, n, h => by
    obtain ⟨m, rfl⟩ : ∃ m, n = m + 1 := ⟨n - 1, by simp at h; omega⟩
    have := last_get (b :: t) a m (by simpa using h)
    simpa [lastF] using this
  | [], s, n, h => by simp at h

/-- What Ratio answers. -/
def ratioF (l : List (Int × Int)) : (Int × Int) × Int :=
  if trainErr l ≠ 0 then ((0, 0), trainErr l) else if (begF (1, 1) l).2 = false then ((0, 0), 8) else (lastF (begF (1, 1) l).1 (0, 0), 0)

/-- What the function value of Ratio finds: its variable, and all below it as it was. -/
structure InvL (w0 : World) (ob : Nat) (s : Int × Int) (w : World) : Prop where
  low : Below w0.heap.size w0 w
  out : Blk w ob 53 #[.int .i64 s.1, .int .i64 s.2]

set_option maxRecDepth 100000 in
theorem ratio1_any (w0 : World) (ob B : Nat) (hl : w0.heap.size ≤ ob) (hlB : ob < B) (s : Int × Int) (w : World) (f : Int × Int) (hB : B ≤ w.heap.size) (hi : InvL w0 ob s w) :
    Calls Try.prog 73 #[.agg #[.int .i64 f.1, .int .i64 f.2], .pointer (some ⟨ob, 0, none⟩)] w fun e w' => e = .returned (.tuple #[]) ∧ InvL w0 ob f w' ∧ Keeps B w w' := by
  obtain ⟨s1, s2⟩ := s
  obtain ⟨fn, fd⟩ := f
  obtain ⟨i1, i2⟩ := hi
  have y0 : ∀ o, (w.alloc o).cell? ⟨ob, 0, none⟩ = some (.int .i64 s1) := fun o => (i2.alloc o).cell 0
  have y1 : ∀ o, (w.alloc o).cell? ⟨ob, 1, none⟩ = some (.int .i64 s2) := fun o => (i2.alloc o).cell 1
  have y2 : ∀ o, (w.alloc o).frozen? ⟨ob, 0, none⟩ = false := fun o => (i2.alloc o).frozen 0
  have y3 : ∀ o, (w.alloc o).frozen? ⟨ob, 1, none⟩ = false := fun o => (i2.alloc o).frozen 1
  have I1 := Lib.hid i1
  have I2 := Lib.hid i2
  clear i1 i2
  have y4 := y0 (.cells #[.int .i64 fn, .int .i64 fd] 53)
  have y5 := y1 (.cells #[.int .i64 fn, .int .i64 fd] 53)
  have y6 := y2 (.cells #[.int .i64 fn, .int .i64 fd] 53)
  have y7 := y3 (.cells #[.int .i64 fn, .int .i64 fd] 53)
  clear y0 y1 y2 y3
  go_enter Try.func73, Try.ntmps73
  go_wp2
  go_end0
  refine ⟨rfl, ⟨((I1.out.alloc I1.out.size _).setCell (p := ⟨ob, 0, none⟩) hl _).setCell (p := ⟨ob, 1, none⟩) hl _, ?_⟩, by simp [World.setCell], fun k hk1 hk2 => ?_⟩
  · have := ((I2.out.alloc (.cells #[.int .i64 fn, .int .i64 fd] 53)).set_ 0 (.int .i64 fn)).set_ 1 (.int .i64 fd)
    simpa using this
  · have n1 : k ≠ ob := by omega
    rw [Below.heap_setCell _ ⟨ob, 1, none⟩ _ _ n1, Below.heap_setCell _ ⟨ob, 0, none⟩ _ _ n1]
    exact Below.heap_alloc _ _ _ hk2

theorem ratio1_each (w0 : World) (ob B : Nat) (hl : w0.heap.size ≤ ob) (hlB : ob < B) :
    Each B 73 #[.pointer (some ⟨ob, 0, none⟩)] (InvL w0 ob) (fun _ f => f) where
  ent := fun _ _ => by kernel_rfl
  call := fun s w f hB hi _ _ => ratio1_any w0 ob B hl hlB s w f hB hi
  keep := fun s w w' hi hb => ⟨hi.low.trans (hb.mono (by omega)), hi.out.below hb hlB⟩

set_option maxRecDepth 100000 in
set_option maxHeartbeats 1000000 in
theorem ratio_any (A : Option Addr) (n c N : Nat) (l : List (Int × Int)) (w : World) (hx : Reads w N 2 A n (cells2 l)) (hN : N ≤ w.heap.size) (hn : n ≤ 9223372036854775807) :
    Calls Try.prog 30 #[.slice A n c] w fun e w' => e = .returned (.tuple #[.agg #[.int .i64 (ratioF l).1.1, .int .i64 (ratioF l).1.2], .int .i64 (ratioF l).2]) ∧ Below w.heap.size w w' := by
  have HX := Lib.hid hx
  clear hx
  obtain ⟨R, hR⟩ : ∃ R, ratioF l = R := ⟨_, rfl⟩
  rw [hR]
  obtain ⟨⟨x, y⟩, e⟩ := R
  by_cases h0 : trainErr l = 0
  · obtain ⟨hlen, hok⟩ := trainErr_ok h0
    have hF : (if (begF (1, 1) l).2 = false then ((0, 0), 8) else (lastF (begF (1, 1) l).1 (0, 0), 0)) = ((x, y), e) := by
      rw [← hR]
      unfold ratioF
      rw [if_neg (show ¬ trainErr l ≠ 0 by rw [h0]; simp)]
    obtain ⟨⟨L, ok⟩, hB⟩ : ∃ r, begF (1, 1) l = r := ⟨_, rfl⟩
    rw [hB] at hF
    have htr : trainF (fun _ f => f) ((fun _ f => f) ((0, 0) : Int × Int) ((1, 1) : Int × Int)) (1, 1) l = (lastF L (0, 0), ok) := by rw [trainF_beg (fun _ f => f) l (0, 0) (1, 1), hB]; rfl
    obtain ⟨t, ht⟩ : ∃ t, lastF L (0, 0) = t := ⟨_, rfl⟩
    rw [ht] at htr hF
    have HF := Lib.hid hF
    have H0 := Lib.hid h0
    have HOK := Lib.hid hok
    have HTR := Lib.hid htr
    clear hF hok hR htr hB h0 ht
    go_enter Try.func30, Try.ntmps30
    go_wp2_with fail
    refine (checktrain_is A n c N l 0 H0.out _ (HX.out.belowLe (by first | exact Below.refl _ _ | exact (Below.refl _ _).alloc (Nat.le_refl _) _) hN) (by simp; omega) hn).mono ?_
    rintro e w1 ⟨rfl, hb⟩
    have HB1 := Lib.hid (show Below w.heap.size w w1 from step_below hb (by repeat' (first | exact Below.refl _ _ | exact HB0.out | refine below_drewN ?_ _ | refine Below.drew ?_ | refine Below.alloc ?_ (by first | omega | (simp; done) | (simp; omega) | (simp [World.setCell]; omega)) _ | refine Below.setCell ?_ (by first | omega | (simp; done) | (simp; omega)) _ | assumption)))
    have K0_1 := Lib.hid (step_blk hb (show Blk _ (w.heap.size) 53 #[.int .i64 (0), .int .i64 (0)] by repeat' (first | exact Blk.at_ _ (by first | rfl | (simp; done) | (simp; omega)) _ _ | refine Blk.drewN ?_ _ | refine Blk.drew ?_ | refine Blk.alloc ?_ _ | refine Blk.far ?_ (by first | omega | (simp; done) | (simp; omega)) _ | assumption)))
    have hz1 := hb.size
    try simp only [World.size_alloc, World.drewN, World.drew] at hz1
    clear hb
    have l0_1 : w.heap.size < w1.heap.size := K0_1.out.lt
    have z0_0_1 : w1.cell? ⟨w.heap.size, 0, none⟩ = some (.int .i64 (0)) := K0_1.out.cell 0
    have z0_1_1 : w1.cell? ⟨w.heap.size, 1, none⟩ = some (.int .i64 (0)) := K0_1.out.cell 1
    have hrd := HX.out.belowLe HB1.out hN
    have HRD := Lib.hid hrd
    clear hrd
    go_wp2_with fail
    refine (train_is (w1.heap.size + 1) 73 #[.pointer (some ⟨w1.heap.size, 0, none⟩)] (InvL w1 w1.heap.size) (fun _ f => f) (ratio1_each w1 _ _ (by omega) (by omega)) A n c N l _ (0, 0) t ok HTR.out (by simp) (by omega) (fun s w' hi => HRD.out.belowLe hi.low (by omega)) ⟨(Below.refl _ _).alloc (Nat.le_refl _) _, Blk.new _ _ _⟩ hn HOK.out).mono ?_
    rintro e w2 ⟨rfl, hi⟩
    have hb := hi.low
    have hout := hi.out
    have hz2 := hb.size
    have hbb := HB1.out.trans (hb.mono (by omega))
    have hk0 := K0_1.out.below hb K0_1.out.lt
    clear hi z0_0_1 z0_1_1
    have d0 := hout.cell 0
    have d1 := hout.cell 1
    have ld := hout.lt
    have HB2 := Lib.hid hbb
    have K0_2 := Lib.hid (show Blk w2 (w.heap.size) 53 #[.int .i64 (0), .int .i64 (0)] from hk0)
    have K1_2 := Lib.hid (show Blk w2 (w1.heap.size) 53 #[.int .i64 (t.1), .int .i64 (t.2)] from hout)
    clear hbb hk0 hout
    have l0_2 : w.heap.size < w2.heap.size := K0_2.out.lt
    have z0_0_2 : w2.cell? ⟨w.heap.size, 0, none⟩ = some (.int .i64 (0)) := K0_2.out.cell 0
    have z0_1_2 : w2.cell? ⟨w.heap.size, 1, none⟩ = some (.int .i64 (0)) := K0_2.out.cell 1
    have l1_2 : w1.heap.size < w2.heap.size := K1_2.out.lt
    have z1_0_2 : w2.cell? ⟨w1.heap.size, 0, none⟩ = some (.int .i64 (t.1)) := K1_2.out.cell 0
    have z1_1_2 : w2.cell? ⟨w1.heap.size, 1, none⟩ = some (.int .i64 (t.2)) := K1_2.out.cell 1
    have zf0_0 := K0_2.out.frozen 0
    have zf0_1 := K0_2.out.frozen 1
    cases ok with
    | false =>
      have hF := HF.out
      rw [if_pos rfl] at hF
      cases hF
      go_wp2
      exact bodyPost_ret (v := .tuple #[.agg #[.int .i64 0, .int .i64 0], .int .i64 8]) (by simp [results, Try.results30, go_sem, z0_0_2, z0_1_2, l0_2]) rfl ⟨rfl, by repeat' (first | exact Below.refl _ _ | exact HB2.out | refine below_drewN ?_ _ | refine Below.drew ?_ | refine Below.alloc ?_ (by first | omega | (simp; done) | (simp; omega) | (simp [World.setCell]; omega)) _ | refine Below.setCell ?_ (by first | omega | (simp; done) | (simp; omega)) _ | assumption)⟩
    | true =>
      have hF := HF.out
      rw [if_neg (by simp)] at hF
      cases hF
      go_wp2
      exact bodyPost_ret (v := .tuple #[.agg #[.int .i64 x, .int .i64 y], .int .i64 0]) (by simp [results, Try.results30, go_sem, z0_0_2, z0_1_2, z1_0_2, z1_1_2, l0_2, l1_2]) rfl ⟨rfl, by repeat' (first | exact Below.refl _ _ | exact HB2.out | refine below_drewN ?_ _ | refine Below.drew ?_ | refine Below.alloc ?_ (by first | omega | (simp; done) | (simp; omega) | (simp [World.setCell]; omega)) _ | refine Below.setCell ?_ (by first | omega | (simp; done) | (simp; omega)) _ | assumption)⟩
  · have hF : ((0, 0), trainErr l) = ((x, y), e) := by rw [← hR]; unfold ratioF; rw [if_pos h0]
    obtain ⟨T, hT⟩ : ∃ T, trainErr l = T := ⟨_, rfl⟩
    rw [hT] at hF h0
    have hne : (T != 0) = true := by simpa using h0
    cases hF
    have HT := Lib.hid hT
    clear hT hR h0
    go_enter Try.func30, Try.ntmps30
    go_wp2_with fail
    refine (checktrain_is A n c N l _ HT.out _ (HX.out.belowLe (by first | exact Below.refl _ _ | exact (Below.refl _ _).alloc (Nat.le_refl _) _) hN) (by simp; omega) hn).mono ?_
    rintro e w1 ⟨rfl, hb⟩
    have HB1 := Lib.hid (show Below w.heap.size w w1 from step_below hb (by repeat' (first | exact Below.refl _ _ | exact HB0.out | refine below_drewN ?_ _ | refine Below.drew ?_ | refine Below.alloc ?_ (by first | omega | (simp; done) | (simp; omega) | (simp [World.setCell]; omega)) _ | refine Below.setCell ?_ (by first | omega | (simp; done) | (simp; omega)) _ | assumption)))
    have K0_1 := Lib.hid (step_blk hb (show Blk _ (w.heap.size) 53 #[.int .i64 (0), .int .i64 (0)] by repeat' (first | exact Blk.at_ _ (by first | rfl | (simp; done) | (simp; omega)) _ _ | refine Blk.drewN ?_ _ | refine Blk.drew ?_ | refine Blk.alloc ?_ _ | refine Blk.far ?_ (by first | omega | (simp; done) | (simp; omega)) _ | assumption)))
    have hz1 := hb.size
    try simp only [World.size_alloc, World.drewN, World.drew] at hz1
    clear hb
    have l0_1 : w.heap.size < w1.heap.size := K0_1.out.lt
    have z0_0_1 : w1.cell? ⟨w.heap.size, 0, none⟩ = some (.int .i64 (0)) := K0_1.out.cell 0
    have z0_1_1 : w1.cell? ⟨w.heap.size, 1, none⟩ = some (.int .i64 (0)) := K0_1.out.cell 1
    have zf0_0 := K0_1.out.frozen 0
    have zf0_1 := K0_1.out.frozen 1
    go_wp2
    exact bodyPost_ret (v := .tuple #[.agg #[.int .i64 0, .int .i64 0], .int .i64 e]) (by simp [results, Try.results30, go_sem, z0_0_1, z0_1_1, l0_1]) rfl ⟨rfl, by repeat' (first | exact Below.refl _ _ | exact HB1.out | refine below_drewN ?_ _ | refine Below.drew ?_ | refine Below.alloc ?_ (by first | omega | (simp; done) | (simp; omega) | (simp [World.setCell]; omega)) _ | refine Below.setCell ?_ (by first | omega | (simp; done) | (simp; omega)) _ | assumption)⟩

theorem ratio_is (A : Option Addr) (n c N : Nat) (l : List (Int × Int)) (x y e : Int) (h : ratioF l = ((x, y), e)) (w : World) (hx : Reads w N 2 A n (cells2 l)) (hN : N ≤ w.heap.size) (hn : n ≤ 9223372036854775807) :
    Calls Try.prog 30 #[.slice A n c] w fun en w' => en = .returned (.tuple #[.agg #[.int .i64 x, .int .i64 y], .int .i64 e]) ∧ Below w.heap.size w w' := by
  have := ratio_any A n c N l w hx hN hn
  rw [h] at this
  exact this


end Go.Proofs.Ytoiconebcmneiab

end

section
/- The contracts of MeetAgain, of the program and of the reference, and of the reference's Returns. -/
namespace Go.Proofs.Ytoiconebcmneiab
open Go.RowKit

def meetF (d v : Int) : Int := v / (Int.gcd d v : Int)
theorem trainErr_one (p : Int × Int) : trainErr [p] = if okP p then 0 else 2 := by
  unfold trainErr
  rw [if_neg (by simp)]
  simp

theorem gcdref_ret (a b : Int) (w : World) (h1 : 1 ≤ a) (h2 : a ≤ 9223372036854775807) (h3 : 1 ≤ b) (h4 : b ≤ 9223372036854775807) :
    Calls Try.prog 41 #[.int .i64 a, .int .i64 b] w fun e w' => e = .returned (.int .i64 (Int.gcd a b : Int)) ∧ ∃ n, w' = w.drewN n := by
  have hg := gcd_small a b (by omega) h4
  exact (gcdref_any a b w (by omega) h2 (by omega) h4).mono fun e w' ⟨he, hw⟩ => ⟨by rw [he]; exact ret_int hg, hw⟩

theorem meet_bound {d v : Int} (h1 : 1 ≤ d) (h2 : 1 ≤ v) : 1 ≤ (Int.gcd d v : Int) ∧ v.tdiv (Int.gcd d v : Int) = meetF d v ∧ 1 ≤ meetF d v ∧ meetF d v ≤ v := by
  have hp : 0 < Int.gcd d v := Int.gcd_pos_of_ne_zero_right d (by omega)
  have a2 : 0 < v / (Int.gcd d v : Int) := Int.ediv_pos_of_pos_of_dvd (by omega) (by omega) (Int.gcd_dvd_right d v)
  have b2 : v / (Int.gcd d v : Int) ≤ v := Int.ediv_le_self _ (by omega)
  exact ⟨by omega, tdiv_gcd_right d v, by unfold meetF; omega, by unfold meetF; omega⟩




/-- The turns by the reference. -/
def retF : Int → List (Int × Int) → Int × Int
  | n, [] => (n, 0)
  | n, f :: l => if 1000000000 < n / (Int.gcd n f.2 : Int) * f.2 then (0, 8) else retF (n / (Int.gcd n f.2 : Int) * f.2) l
theorem fold_large : ∀ (L : List (Int × Int)) (t : Int), (L.foldl stepR (t, true)) = (t, true)
  | [], _ => rfl
  | f :: L, t => by
    simp only [List.foldl_cons]
    rw [show stepR (t, true) f = (t, true) from rfl, fold_large L t]
theorem retF_fold : ∀ (L : List (Int × Int)) (n : Int), retF n L = if (L.foldl stepR (n, false)).2 then (0, 8) else ((L.foldl stepR (n, false)).1, 0)
  | [], _ => rfl
  | f :: L, n => by
    have hf : List.foldl stepR (n, false) (f :: L) = List.foldl stepR (stepR (n, false) f) L := rfl
    rw [hf]
    simp only [retF]
    by_cases h : 1000000000 < n / (Int.gcd n f.2 : Int) * f.2
    · rw [if_pos h, show stepR (n, false) f = (n / (Int.gcd n f.2 : Int) * f.2, true) by simp [stepR, h], fold_large]
      rfl
    · rw [if_neg h, show stepR (n, false) f = (n / (Int.gcd n f.2 : Int) * f.2, false) by simp [stepR, h], retF_fold L]
theorem returnsF_eq {l : List (Int × Int)} (h0 : trainErr l = 0) : returnsF l = if (begF (1, 1) l).2 = false then (0, 8) else retF 1 (begF (1, 1) l).1 := by
  unfold returnsF
  rw [if_neg (show ¬ trainErr l ≠ 0 by rw [h0]; simp)]
  unfold trainR
  rw [trainF_beg, retF_fold]
  simp only
  cases (begF (1, 1) l).2 <;> cases (List.foldl stepR (1, false) (begF (1, 1) l).1).2 <;> simp

theorem retF_step {n : Int} {f : Int × Int} {L : List (Int × Int)} : retF n (f :: L) = if 1000000000 < n / (Int.gcd n f.2 : Int) * f.2 then (0, 8) else retF (n / (Int.gcd n f.2 : Int) * f.2) L := rfl


end Go.Proofs.Ytoiconebcmneiab

end
