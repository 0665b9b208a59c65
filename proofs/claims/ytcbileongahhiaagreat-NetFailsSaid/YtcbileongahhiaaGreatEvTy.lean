/- Facts about this program's types, as rewriting rules. -/
import Derived.Test.YtcbileongahhiaaGreatEv
import Derived.Test.YtcbileongahhiaaGreatProg
import Derived.KernelRfl
namespace Go.Proofs.YtcbileongahhiaaGreat.Ev
open Go Go.Proofs

theorem cs0 : csize Tryz.prog 0 = some 1 := by kernel_rfl
theorem ag0 : aggT Tryz.prog 0 = some false := by kernel_rfl
theorem by0 : (Tryz.prog.info? 0).map (·.bytes) = some 0 := by kernel_rfl
attribute [simp] cs0 ag0 by0 Tryz.underlying0
theorem cs1 : csize Tryz.prog 1 = some 1 := by kernel_rfl
theorem ag1 : aggT Tryz.prog 1 = some false := by kernel_rfl
theorem ze1 : zeroAV Tryz.prog 1 = some (.nilf) := by kernel_rfl
theorem by1 : (Tryz.prog.info? 1).map (·.bytes) = some 8 := by kernel_rfl
attribute [simp] cs1 ag1 ze1 by1 Tryz.underlying1
theorem cs2 : csize Tryz.prog 2 = some 1 := by kernel_rfl
theorem ag2 : aggT Tryz.prog 2 = some false := by kernel_rfl
theorem ze2 : zeroAV Tryz.prog 2 = some (.int .i64 0) := by kernel_rfl
theorem by2 : (Tryz.prog.info? 2).map (·.bytes) = some 8 := by kernel_rfl
attribute [simp] cs2 ag2 ze2 by2 Tryz.underlying2
theorem cs3 : csize Tryz.prog 3 = some 1 := by kernel_rfl
theorem ag3 : aggT Tryz.prog 3 = some false := by kernel_rfl
theorem ze3 : zeroAV Tryz.prog 3 = some (.int .i64 0) := by kernel_rfl
theorem by3 : (Tryz.prog.info? 3).map (·.bytes) = some 8 := by kernel_rfl
attribute [simp] cs3 ag3 ze3 by3 Tryz.underlying3
theorem cs4 : csize Tryz.prog 4 = some 1 := by kernel_rfl
theorem ag4 : aggT Tryz.prog 4 = some false := by kernel_rfl
theorem ze4 : zeroAV Tryz.prog 4 = some (.bool false) := by kernel_rfl
theorem by4 : (Tryz.prog.info? 4).map (·.bytes) = some 1 := by kernel_rfl
attribute [simp] cs4 ag4 ze4 by4 Tryz.underlying4
theorem cs5 : csize Tryz.prog 5 = some 1 := by kernel_rfl
theorem ag5 : aggT Tryz.prog 5 = some false := by kernel_rfl
theorem ze5 : zeroAV Tryz.prog 5 = some (.int .u8 0) := by kernel_rfl
theorem by5 : (Tryz.prog.info? 5).map (·.bytes) = some 1 := by kernel_rfl
attribute [simp] cs5 ag5 ze5 by5 Tryz.underlying5
theorem cs6 : csize Tryz.prog 6 = some 1 := by kernel_rfl
theorem ag6 : aggT Tryz.prog 6 = some false := by kernel_rfl
theorem ze6 : zeroAV Tryz.prog 6 = some (.int .u8 0) := by kernel_rfl
theorem by6 : (Tryz.prog.info? 6).map (·.bytes) = some 1 := by kernel_rfl
attribute [simp] cs6 ag6 ze6 by6 Tryz.underlying6
theorem cs7 : csize Tryz.prog 7 = some 4 := by kernel_rfl
theorem ag7 : aggT Tryz.prog 7 = some true := by kernel_rfl
theorem ze7 : zeroAV Tryz.prog 7 = some (.agg [.int .i64 0, .int .i64 0, .bool false, .int .u8 0]) := by kernel_rfl
theorem by7 : (Tryz.prog.info? 7).map (·.bytes) = some 24 := by kernel_rfl
attribute [simp] cs7 ag7 ze7 by7 Tryz.underlying7
theorem cs8 : csize Tryz.prog 8 = some 4 := by kernel_rfl
theorem ag8 : aggT Tryz.prog 8 = some true := by kernel_rfl
theorem ze8 : zeroAV Tryz.prog 8 = some (.agg [.int .i64 0, .int .i64 0, .bool false, .int .u8 0]) := by kernel_rfl
theorem by8 : (Tryz.prog.info? 8).map (·.bytes) = some 24 := by kernel_rfl
attribute [simp] cs8 ag8 ze8 by8 Tryz.underlying8
theorem cs9 : csize Tryz.prog 9 = some 1 := by kernel_rfl
theorem ag9 : aggT Tryz.prog 9 = some false := by kernel_rfl
theorem ze9 : zeroAV Tryz.prog 9 = some (.str []) := by kernel_rfl
theorem by9 : (Tryz.prog.info? 9).map (·.bytes) = some 16 := by kernel_rfl
attribute [simp] cs9 ag9 ze9 by9 Tryz.underlying9
theorem cs10 : csize Tryz.prog 10 = some 1 := by kernel_rfl
theorem ag10 : aggT Tryz.prog 10 = some false := by kernel_rfl
theorem ze10 : zeroAV Tryz.prog 10 = some (.str []) := by kernel_rfl
theorem by10 : (Tryz.prog.info? 10).map (·.bytes) = some 16 := by kernel_rfl
attribute [simp] cs10 ag10 ze10 by10 Tryz.underlying10
theorem cs11 : csize Tryz.prog 11 = some 1 := by kernel_rfl
theorem ag11 : aggT Tryz.prog 11 = some false := by kernel_rfl
theorem ze11 : zeroAV Tryz.prog 11 = some (.str []) := by kernel_rfl
theorem by11 : (Tryz.prog.info? 11).map (·.bytes) = some 16 := by kernel_rfl
attribute [simp] cs11 ag11 ze11 by11 Tryz.underlying11
theorem cs12 : csize Tryz.prog 12 = some 1 := by kernel_rfl
theorem ag12 : aggT Tryz.prog 12 = some false := by kernel_rfl
theorem ze12 : zeroAV Tryz.prog 12 = some (.int .u64 0) := by kernel_rfl
theorem by12 : (Tryz.prog.info? 12).map (·.bytes) = some 8 := by kernel_rfl
attribute [simp] cs12 ag12 ze12 by12 Tryz.underlying12
theorem cs13 : csize Tryz.prog 13 = some 2 := by kernel_rfl
theorem ag13 : aggT Tryz.prog 13 = some true := by kernel_rfl
theorem ze13 : zeroAV Tryz.prog 13 = some (.agg [.str [], .int .u64 0]) := by kernel_rfl
theorem by13 : (Tryz.prog.info? 13).map (·.bytes) = some 24 := by kernel_rfl
attribute [simp] cs13 ag13 ze13 by13 Tryz.underlying13
theorem cs14 : csize Tryz.prog 14 = some 2 := by kernel_rfl
theorem ag14 : aggT Tryz.prog 14 = some true := by kernel_rfl
theorem ze14 : zeroAV Tryz.prog 14 = some (.agg [.str [], .int .u64 0]) := by kernel_rfl
theorem by14 : (Tryz.prog.info? 14).map (·.bytes) = some 24 := by kernel_rfl
attribute [simp] cs14 ag14 ze14 by14 Tryz.underlying14
theorem cs15 : csize Tryz.prog 15 = some 1 := by kernel_rfl
theorem ag15 : aggT Tryz.prog 15 = some false := by kernel_rfl
theorem ze15 : zeroAV Tryz.prog 15 = some (.nilp) := by kernel_rfl
theorem by15 : (Tryz.prog.info? 15).map (·.bytes) = some 8 := by kernel_rfl
attribute [simp] cs15 ag15 ze15 by15 Tryz.underlying15
theorem cs16 : csize Tryz.prog 16 = some 1 := by kernel_rfl
theorem ag16 : aggT Tryz.prog 16 = some false := by kernel_rfl
theorem ze16 : zeroAV Tryz.prog 16 = some (.nilp) := by kernel_rfl
theorem by16 : (Tryz.prog.info? 16).map (·.bytes) = some 8 := by kernel_rfl
attribute [simp] cs16 ag16 ze16 by16 Tryz.underlying16
theorem cs17 : csize Tryz.prog 17 = some 1 := by kernel_rfl
theorem ag17 : aggT Tryz.prog 17 = some false := by kernel_rfl
theorem ze17 : zeroAV Tryz.prog 17 = some (.nilp) := by kernel_rfl
theorem by17 : (Tryz.prog.info? 17).map (·.bytes) = some 8 := by kernel_rfl
attribute [simp] cs17 ag17 ze17 by17 Tryz.underlying17
theorem cs18 : csize Tryz.prog 18 = some 1 := by kernel_rfl
theorem ag18 : aggT Tryz.prog 18 = some true := by kernel_rfl
theorem ze18 : zeroAV Tryz.prog 18 = some (.agg [.nilp]) := by kernel_rfl
theorem by18 : (Tryz.prog.info? 18).map (·.bytes) = some 8 := by kernel_rfl
attribute [simp] cs18 ag18 ze18 by18 Tryz.underlying18
theorem cs19 : csize Tryz.prog 19 = some 1 := by kernel_rfl
theorem ag19 : aggT Tryz.prog 19 = some true := by kernel_rfl
theorem ze19 : zeroAV Tryz.prog 19 = some (.agg [.nilp]) := by kernel_rfl
theorem by19 : (Tryz.prog.info? 19).map (·.bytes) = some 8 := by kernel_rfl
attribute [simp] cs19 ag19 ze19 by19 Tryz.underlying19
theorem cs20 : csize Tryz.prog 20 = some 1 := by kernel_rfl
theorem ag20 : aggT Tryz.prog 20 = some false := by kernel_rfl
theorem ze20 : zeroAV Tryz.prog 20 = some (.nili) := by kernel_rfl
theorem by20 : (Tryz.prog.info? 20).map (·.bytes) = some 16 := by kernel_rfl
attribute [simp] cs20 ag20 ze20 by20 Tryz.underlying20
theorem cs21 : csize Tryz.prog 21 = some 1 := by kernel_rfl
theorem ag21 : aggT Tryz.prog 21 = some false := by kernel_rfl
theorem ze21 : zeroAV Tryz.prog 21 = some (.int .i32 0) := by kernel_rfl
theorem by21 : (Tryz.prog.info? 21).map (·.bytes) = some 4 := by kernel_rfl
attribute [simp] cs21 ag21 ze21 by21 Tryz.underlying21
theorem cs22 : csize Tryz.prog 22 = some 1 := by kernel_rfl
theorem ag22 : aggT Tryz.prog 22 = some false := by kernel_rfl
theorem ze22 : zeroAV Tryz.prog 22 = some (.nils) := by kernel_rfl
theorem by22 : (Tryz.prog.info? 22).map (·.bytes) = some 24 := by kernel_rfl
attribute [simp] cs22 ag22 ze22 by22 Tryz.underlying22
theorem cs23 : csize Tryz.prog 23 = some 1 := by kernel_rfl
theorem ag23 : aggT Tryz.prog 23 = some false := by kernel_rfl
theorem ze23 : zeroAV Tryz.prog 23 = some (.nils) := by kernel_rfl
theorem by23 : (Tryz.prog.info? 23).map (·.bytes) = some 24 := by kernel_rfl
attribute [simp] cs23 ag23 ze23 by23 Tryz.underlying23
theorem cs24 : csize Tryz.prog 24 = some 1 := by kernel_rfl
theorem ag24 : aggT Tryz.prog 24 = some false := by kernel_rfl
theorem ze24 : zeroAV Tryz.prog 24 = some (.nils) := by kernel_rfl
theorem by24 : (Tryz.prog.info? 24).map (·.bytes) = some 24 := by kernel_rfl
attribute [simp] cs24 ag24 ze24 by24 Tryz.underlying24
theorem cs25 : csize Tryz.prog 25 = some 1 := by kernel_rfl
theorem ag25 : aggT Tryz.prog 25 = some false := by kernel_rfl
theorem ze25 : zeroAV Tryz.prog 25 = some (.nils) := by kernel_rfl
theorem by25 : (Tryz.prog.info? 25).map (·.bytes) = some 24 := by kernel_rfl
attribute [simp] cs25 ag25 ze25 by25 Tryz.underlying25
theorem cs26 : csize Tryz.prog 26 = some 4 := by kernel_rfl
theorem ag26 : aggT Tryz.prog 26 = some true := by kernel_rfl
theorem ze26 : zeroAV Tryz.prog 26 = some (.agg [.nils, .nils, .nils, .nils]) := by kernel_rfl
theorem by26 : (Tryz.prog.info? 26).map (·.bytes) = some 96 := by kernel_rfl
attribute [simp] cs26 ag26 ze26 by26 Tryz.underlying26
theorem cs27 : csize Tryz.prog 27 = some 4 := by kernel_rfl
theorem ag27 : aggT Tryz.prog 27 = some true := by kernel_rfl
theorem ze27 : zeroAV Tryz.prog 27 = some (.agg [.nils, .nils, .nils, .nils]) := by kernel_rfl
theorem by27 : (Tryz.prog.info? 27).map (·.bytes) = some 96 := by kernel_rfl
attribute [simp] cs27 ag27 ze27 by27 Tryz.underlying27
theorem cs28 : csize Tryz.prog 28 = some 1 := by kernel_rfl
theorem ag28 : aggT Tryz.prog 28 = some false := by kernel_rfl
theorem ze28 : zeroAV Tryz.prog 28 = some (.int .u64 0) := by kernel_rfl
theorem by28 : (Tryz.prog.info? 28).map (·.bytes) = some 8 := by kernel_rfl
attribute [simp] cs28 ag28 ze28 by28 Tryz.underlying28
theorem cs29 : csize Tryz.prog 29 = some 1 := by kernel_rfl
theorem ag29 : aggT Tryz.prog 29 = some false := by kernel_rfl
theorem ze29 : zeroAV Tryz.prog 29 = some (.int .u32 0) := by kernel_rfl
theorem by29 : (Tryz.prog.info? 29).map (·.bytes) = some 4 := by kernel_rfl
attribute [simp] cs29 ag29 ze29 by29 Tryz.underlying29
theorem cs30 : csize Tryz.prog 30 = some 11 := by kernel_rfl
theorem ag30 : aggT Tryz.prog 30 = some true := by kernel_rfl
theorem ze30 : zeroAV Tryz.prog 30 = some (.agg [.int .u64 0, .int .u64 0, .int .i64 0, .int .i64 0, .int .u32 0, .int .u32 0, .int .i64 0, .int .i64 0, .int .i64 0, .int .i64 0, .str []]) := by kernel_rfl
theorem by30 : (Tryz.prog.info? 30).map (·.bytes) = some 88 := by kernel_rfl
attribute [simp] cs30 ag30 ze30 by30 Tryz.underlying30
theorem cs31 : csize Tryz.prog 31 = some 11 := by kernel_rfl
theorem ag31 : aggT Tryz.prog 31 = some true := by kernel_rfl
theorem ze31 : zeroAV Tryz.prog 31 = some (.agg [.int .u64 0, .int .u64 0, .int .i64 0, .int .i64 0, .int .u32 0, .int .u32 0, .int .i64 0, .int .i64 0, .int .i64 0, .int .i64 0, .str []]) := by kernel_rfl
theorem by31 : (Tryz.prog.info? 31).map (·.bytes) = some 88 := by kernel_rfl
attribute [simp] cs31 ag31 ze31 by31 Tryz.underlying31
theorem cs32 : csize Tryz.prog 32 = some 13 := by kernel_rfl
theorem ag32 : aggT Tryz.prog 32 = some true := by kernel_rfl
theorem ze32 : zeroAV Tryz.prog 32 = some (.agg [.int .i64 0, .int .u64 0, .int .u64 0, .int .u64 0, .int .i64 0, .int .i64 0, .int .u32 0, .int .u32 0, .int .i64 0, .int .i64 0, .int .i64 0, .int .i64 0, .str []]) := by kernel_rfl
theorem by32 : (Tryz.prog.info? 32).map (·.bytes) = some 104 := by kernel_rfl
attribute [simp] cs32 ag32 ze32 by32 Tryz.underlying32
theorem cs33 : csize Tryz.prog 33 = some 13 := by kernel_rfl
theorem ag33 : aggT Tryz.prog 33 = some true := by kernel_rfl
theorem ze33 : zeroAV Tryz.prog 33 = some (.agg [.int .i64 0, .int .u64 0, .int .u64 0, .int .u64 0, .int .i64 0, .int .i64 0, .int .u32 0, .int .u32 0, .int .i64 0, .int .i64 0, .int .i64 0, .int .i64 0, .str []]) := by kernel_rfl
theorem by33 : (Tryz.prog.info? 33).map (·.bytes) = some 104 := by kernel_rfl
attribute [simp] cs33 ag33 ze33 by33 Tryz.underlying33
theorem cs34 : csize Tryz.prog 34 = some 1 := by kernel_rfl
theorem ag34 : aggT Tryz.prog 34 = some false := by kernel_rfl
theorem ze34 : zeroAV Tryz.prog 34 = some (.nilp) := by kernel_rfl
theorem by34 : (Tryz.prog.info? 34).map (·.bytes) = some 8 := by kernel_rfl
attribute [simp] cs34 ag34 ze34 by34 Tryz.underlying34
theorem cs35 : csize Tryz.prog 35 = some 1 := by kernel_rfl
theorem ag35 : aggT Tryz.prog 35 = some false := by kernel_rfl
theorem ze35 : zeroAV Tryz.prog 35 = some (.nilp) := by kernel_rfl
theorem by35 : (Tryz.prog.info? 35).map (·.bytes) = some 8 := by kernel_rfl
attribute [simp] cs35 ag35 ze35 by35 Tryz.underlying35
theorem cs36 : csize Tryz.prog 36 = some 1 := by kernel_rfl
theorem ag36 : aggT Tryz.prog 36 = some false := by kernel_rfl
theorem ze36 : zeroAV Tryz.prog 36 = some (.nils) := by kernel_rfl
theorem by36 : (Tryz.prog.info? 36).map (·.bytes) = some 24 := by kernel_rfl
attribute [simp] cs36 ag36 ze36 by36 Tryz.underlying36
theorem cs37 : csize Tryz.prog 37 = some 4 := by kernel_rfl
theorem ag37 : aggT Tryz.prog 37 = some true := by kernel_rfl
theorem ze37 : zeroAV Tryz.prog 37 = some (.agg [.nilp, .nilp, .nils, .nils]) := by kernel_rfl
theorem by37 : (Tryz.prog.info? 37).map (·.bytes) = some 64 := by kernel_rfl
attribute [simp] cs37 ag37 ze37 by37 Tryz.underlying37
theorem cs38 : csize Tryz.prog 38 = some 4 := by kernel_rfl
theorem ag38 : aggT Tryz.prog 38 = some true := by kernel_rfl
theorem ze38 : zeroAV Tryz.prog 38 = some (.agg [.nilp, .nilp, .nils, .nils]) := by kernel_rfl
theorem by38 : (Tryz.prog.info? 38).map (·.bytes) = some 64 := by kernel_rfl
attribute [simp] cs38 ag38 ze38 by38 Tryz.underlying38
theorem cs39 : csize Tryz.prog 39 = some 1 := by kernel_rfl
theorem ag39 : aggT Tryz.prog 39 = some false := by kernel_rfl
theorem by39 : (Tryz.prog.info? 39).map (·.bytes) = some 0 := by kernel_rfl
attribute [simp] cs39 ag39 by39 Tryz.underlying39
theorem cs40 : csize Tryz.prog 40 = some 1 := by kernel_rfl
theorem ag40 : aggT Tryz.prog 40 = some false := by kernel_rfl
theorem ze40 : zeroAV Tryz.prog 40 = some (.nilf) := by kernel_rfl
theorem by40 : (Tryz.prog.info? 40).map (·.bytes) = some 8 := by kernel_rfl
attribute [simp] cs40 ag40 ze40 by40 Tryz.underlying40
theorem cs41 : csize Tryz.prog 41 = some 1 := by kernel_rfl
theorem ag41 : aggT Tryz.prog 41 = some false := by kernel_rfl
theorem ze41 : zeroAV Tryz.prog 41 = some (.nilf) := by kernel_rfl
theorem by41 : (Tryz.prog.info? 41).map (·.bytes) = some 8 := by kernel_rfl
attribute [simp] cs41 ag41 ze41 by41 Tryz.underlying41
theorem cs42 : csize Tryz.prog 42 = some 1 := by kernel_rfl
theorem ag42 : aggT Tryz.prog 42 = some false := by kernel_rfl
theorem ze42 : zeroAV Tryz.prog 42 = some (.nilf) := by kernel_rfl
theorem by42 : (Tryz.prog.info? 42).map (·.bytes) = some 8 := by kernel_rfl
attribute [simp] cs42 ag42 ze42 by42 Tryz.underlying42
theorem cs43 : csize Tryz.prog 43 = some 1 := by kernel_rfl
theorem ag43 : aggT Tryz.prog 43 = some false := by kernel_rfl
theorem ze43 : zeroAV Tryz.prog 43 = some (.nils) := by kernel_rfl
theorem by43 : (Tryz.prog.info? 43).map (·.bytes) = some 24 := by kernel_rfl
attribute [simp] cs43 ag43 ze43 by43 Tryz.underlying43
theorem cs44 : csize Tryz.prog 44 = some 1 := by kernel_rfl
theorem ag44 : aggT Tryz.prog 44 = some false := by kernel_rfl
theorem ze44 : zeroAV Tryz.prog 44 = some (.nilf) := by kernel_rfl
theorem by44 : (Tryz.prog.info? 44).map (·.bytes) = some 8 := by kernel_rfl
attribute [simp] cs44 ag44 ze44 by44 Tryz.underlying44
theorem cs45 : csize Tryz.prog 45 = some 1 := by kernel_rfl
theorem ag45 : aggT Tryz.prog 45 = some false := by kernel_rfl
theorem ze45 : zeroAV Tryz.prog 45 = some (.nils) := by kernel_rfl
theorem by45 : (Tryz.prog.info? 45).map (·.bytes) = some 24 := by kernel_rfl
attribute [simp] cs45 ag45 ze45 by45 Tryz.underlying45
theorem cs46 : csize Tryz.prog 46 = some 1 := by kernel_rfl
theorem ag46 : aggT Tryz.prog 46 = some false := by kernel_rfl
theorem ze46 : zeroAV Tryz.prog 46 = some (.nilf) := by kernel_rfl
theorem by46 : (Tryz.prog.info? 46).map (·.bytes) = some 8 := by kernel_rfl
attribute [simp] cs46 ag46 ze46 by46 Tryz.underlying46
theorem cs47 : csize Tryz.prog 47 = some 1 := by kernel_rfl
theorem ag47 : aggT Tryz.prog 47 = some false := by kernel_rfl
theorem ze47 : zeroAV Tryz.prog 47 = some (.nilf) := by kernel_rfl
theorem by47 : (Tryz.prog.info? 47).map (·.bytes) = some 8 := by kernel_rfl
attribute [simp] cs47 ag47 ze47 by47 Tryz.underlying47
theorem cs48 : csize Tryz.prog 48 = some 1 := by kernel_rfl
theorem ag48 : aggT Tryz.prog 48 = some false := by kernel_rfl
theorem ze48 : zeroAV Tryz.prog 48 = some (.nilf) := by kernel_rfl
theorem by48 : (Tryz.prog.info? 48).map (·.bytes) = some 8 := by kernel_rfl
attribute [simp] cs48 ag48 ze48 by48 Tryz.underlying48
theorem cs49 : csize Tryz.prog 49 = some 1 := by kernel_rfl
theorem ag49 : aggT Tryz.prog 49 = some false := by kernel_rfl
theorem ze49 : zeroAV Tryz.prog 49 = some (.nils) := by kernel_rfl
theorem by49 : (Tryz.prog.info? 49).map (·.bytes) = some 24 := by kernel_rfl
attribute [simp] cs49 ag49 ze49 by49 Tryz.underlying49
theorem cs50 : csize Tryz.prog 50 = some 1 := by kernel_rfl
theorem ag50 : aggT Tryz.prog 50 = some false := by kernel_rfl
theorem ze50 : zeroAV Tryz.prog 50 = some (.nils) := by kernel_rfl
theorem by50 : (Tryz.prog.info? 50).map (·.bytes) = some 24 := by kernel_rfl
attribute [simp] cs50 ag50 ze50 by50 Tryz.underlying50
theorem cs51 : csize Tryz.prog 51 = some 10 := by kernel_rfl
theorem ag51 : aggT Tryz.prog 51 = some true := by kernel_rfl
theorem ze51 : zeroAV Tryz.prog 51 = some (.agg [.int .i64 0, .int .i64 0, .nils, .nils, .nils, .bool false, .int .u64 0, .int .u64 0, .int .i64 0, .int .i64 0]) := by kernel_rfl
theorem by51 : (Tryz.prog.info? 51).map (·.bytes) = some 128 := by kernel_rfl
attribute [simp] cs51 ag51 ze51 by51 Tryz.underlying51
theorem cs52 : csize Tryz.prog 52 = some 10 := by kernel_rfl
theorem ag52 : aggT Tryz.prog 52 = some true := by kernel_rfl
theorem ze52 : zeroAV Tryz.prog 52 = some (.agg [.int .i64 0, .int .i64 0, .nils, .nils, .nils, .bool false, .int .u64 0, .int .u64 0, .int .i64 0, .int .i64 0]) := by kernel_rfl
theorem by52 : (Tryz.prog.info? 52).map (·.bytes) = some 128 := by kernel_rfl
attribute [simp] cs52 ag52 ze52 by52 Tryz.underlying52
theorem cs53 : csize Tryz.prog 53 = some 1 := by kernel_rfl
theorem ag53 : aggT Tryz.prog 53 = some false := by kernel_rfl
theorem ze53 : zeroAV Tryz.prog 53 = some (.nilf) := by kernel_rfl
theorem by53 : (Tryz.prog.info? 53).map (·.bytes) = some 8 := by kernel_rfl
attribute [simp] cs53 ag53 ze53 by53 Tryz.underlying53
theorem cs54 : csize Tryz.prog 54 = some 1 := by kernel_rfl
theorem ag54 : aggT Tryz.prog 54 = some false := by kernel_rfl
theorem ze54 : zeroAV Tryz.prog 54 = some (.nilf) := by kernel_rfl
theorem by54 : (Tryz.prog.info? 54).map (·.bytes) = some 8 := by kernel_rfl
attribute [simp] cs54 ag54 ze54 by54 Tryz.underlying54
theorem cs55 : csize Tryz.prog 55 = some 1 := by kernel_rfl
theorem ag55 : aggT Tryz.prog 55 = some false := by kernel_rfl
theorem ze55 : zeroAV Tryz.prog 55 = some (.nils) := by kernel_rfl
theorem by55 : (Tryz.prog.info? 55).map (·.bytes) = some 24 := by kernel_rfl
attribute [simp] cs55 ag55 ze55 by55 Tryz.underlying55
theorem cs56 : csize Tryz.prog 56 = some 3 := by kernel_rfl
theorem ag56 : aggT Tryz.prog 56 = some true := by kernel_rfl
theorem ze56 : zeroAV Tryz.prog 56 = some (.agg [.int .i64 0, .int .i64 0, .nils]) := by kernel_rfl
theorem by56 : (Tryz.prog.info? 56).map (·.bytes) = some 40 := by kernel_rfl
attribute [simp] cs56 ag56 ze56 by56 Tryz.underlying56
theorem cs57 : csize Tryz.prog 57 = some 3 := by kernel_rfl
theorem ag57 : aggT Tryz.prog 57 = some true := by kernel_rfl
theorem ze57 : zeroAV Tryz.prog 57 = some (.agg [.int .i64 0, .int .i64 0, .nils]) := by kernel_rfl
theorem by57 : (Tryz.prog.info? 57).map (·.bytes) = some 40 := by kernel_rfl
attribute [simp] cs57 ag57 ze57 by57 Tryz.underlying57
theorem cs58 : csize Tryz.prog 58 = some 1 := by kernel_rfl
theorem ag58 : aggT Tryz.prog 58 = some false := by kernel_rfl
theorem ze58 : zeroAV Tryz.prog 58 = some (.nilf) := by kernel_rfl
theorem by58 : (Tryz.prog.info? 58).map (·.bytes) = some 8 := by kernel_rfl
attribute [simp] cs58 ag58 ze58 by58 Tryz.underlying58
theorem cs59 : csize Tryz.prog 59 = some 1 := by kernel_rfl
theorem ag59 : aggT Tryz.prog 59 = some false := by kernel_rfl
theorem ze59 : zeroAV Tryz.prog 59 = some (.nilf) := by kernel_rfl
theorem by59 : (Tryz.prog.info? 59).map (·.bytes) = some 8 := by kernel_rfl
attribute [simp] cs59 ag59 ze59 by59 Tryz.underlying59
theorem cs60 : csize Tryz.prog 60 = some 1 := by kernel_rfl
theorem ag60 : aggT Tryz.prog 60 = some false := by kernel_rfl
theorem ze60 : zeroAV Tryz.prog 60 = some (.nils) := by kernel_rfl
theorem by60 : (Tryz.prog.info? 60).map (·.bytes) = some 24 := by kernel_rfl
attribute [simp] cs60 ag60 ze60 by60 Tryz.underlying60
theorem cs61 : csize Tryz.prog 61 = some 1 := by kernel_rfl
theorem ag61 : aggT Tryz.prog 61 = some false := by kernel_rfl
theorem ze61 : zeroAV Tryz.prog 61 = some (.nils) := by kernel_rfl
theorem by61 : (Tryz.prog.info? 61).map (·.bytes) = some 24 := by kernel_rfl
attribute [simp] cs61 ag61 ze61 by61 Tryz.underlying61
theorem cs62 : csize Tryz.prog 62 = some 3 := by kernel_rfl
theorem ag62 : aggT Tryz.prog 62 = some true := by kernel_rfl
theorem ze62 : zeroAV Tryz.prog 62 = some (.agg [.int .i64 0, .nils, .nils]) := by kernel_rfl
theorem by62 : (Tryz.prog.info? 62).map (·.bytes) = some 56 := by kernel_rfl
attribute [simp] cs62 ag62 ze62 by62 Tryz.underlying62
theorem cs63 : csize Tryz.prog 63 = some 3 := by kernel_rfl
theorem ag63 : aggT Tryz.prog 63 = some true := by kernel_rfl
theorem ze63 : zeroAV Tryz.prog 63 = some (.agg [.int .i64 0, .nils, .nils]) := by kernel_rfl
theorem by63 : (Tryz.prog.info? 63).map (·.bytes) = some 56 := by kernel_rfl
attribute [simp] cs63 ag63 ze63 by63 Tryz.underlying63
theorem cs64 : csize Tryz.prog 64 = some 1 := by kernel_rfl
theorem ag64 : aggT Tryz.prog 64 = some false := by kernel_rfl
theorem ze64 : zeroAV Tryz.prog 64 = some (.nils) := by kernel_rfl
theorem by64 : (Tryz.prog.info? 64).map (·.bytes) = some 24 := by kernel_rfl
attribute [simp] cs64 ag64 ze64 by64 Tryz.underlying64
theorem cs65 : csize Tryz.prog 65 = some 1 := by kernel_rfl
theorem ag65 : aggT Tryz.prog 65 = some false := by kernel_rfl
theorem ze65 : zeroAV Tryz.prog 65 = some (.nilp) := by kernel_rfl
theorem by65 : (Tryz.prog.info? 65).map (·.bytes) = some 8 := by kernel_rfl
attribute [simp] cs65 ag65 ze65 by65 Tryz.underlying65
theorem cs66 : csize Tryz.prog 66 = some 1 := by kernel_rfl
theorem ag66 : aggT Tryz.prog 66 = some false := by kernel_rfl
theorem ze66 : zeroAV Tryz.prog 66 = some (.int .i64 0) := by kernel_rfl
theorem by66 : (Tryz.prog.info? 66).map (·.bytes) = some 8 := by kernel_rfl
attribute [simp] cs66 ag66 ze66 by66 Tryz.underlying66
theorem cs67 : csize Tryz.prog 67 = some 1 := by kernel_rfl
theorem ag67 : aggT Tryz.prog 67 = some false := by kernel_rfl
theorem by67 : (Tryz.prog.info? 67).map (·.bytes) = some 0 := by kernel_rfl
attribute [simp] cs67 ag67 by67 Tryz.underlying67
theorem cs68 : csize Tryz.prog 68 = some 1 := by kernel_rfl
theorem ag68 : aggT Tryz.prog 68 = some false := by kernel_rfl
theorem ze68 : zeroAV Tryz.prog 68 = some (.nilf) := by kernel_rfl
theorem by68 : (Tryz.prog.info? 68).map (·.bytes) = some 8 := by kernel_rfl
attribute [simp] cs68 ag68 ze68 by68 Tryz.underlying68
theorem cs69 : csize Tryz.prog 69 = some 1 := by kernel_rfl
theorem ag69 : aggT Tryz.prog 69 = some false := by kernel_rfl
theorem ze69 : zeroAV Tryz.prog 69 = some (.nilf) := by kernel_rfl
theorem by69 : (Tryz.prog.info? 69).map (·.bytes) = some 8 := by kernel_rfl
attribute [simp] cs69 ag69 ze69 by69 Tryz.underlying69
theorem cs70 : csize Tryz.prog 70 = some 1 := by kernel_rfl
theorem ag70 : aggT Tryz.prog 70 = some false := by kernel_rfl
theorem ze70 : zeroAV Tryz.prog 70 = some (.nils) := by kernel_rfl
theorem by70 : (Tryz.prog.info? 70).map (·.bytes) = some 24 := by kernel_rfl
attribute [simp] cs70 ag70 ze70 by70 Tryz.underlying70
theorem cs71 : csize Tryz.prog 71 = some 6 := by kernel_rfl
theorem ag71 : aggT Tryz.prog 71 = some true := by kernel_rfl
theorem ze71 : zeroAV Tryz.prog 71 = some (.agg [.int .i64 0, .int .i64 0, .str [], .int .i64 0, .nils, .bool false]) := by kernel_rfl
theorem by71 : (Tryz.prog.info? 71).map (·.bytes) = some 72 := by kernel_rfl
attribute [simp] cs71 ag71 ze71 by71 Tryz.underlying71
theorem cs72 : csize Tryz.prog 72 = some 6 := by kernel_rfl
theorem ag72 : aggT Tryz.prog 72 = some true := by kernel_rfl
theorem ze72 : zeroAV Tryz.prog 72 = some (.agg [.int .i64 0, .int .i64 0, .str [], .int .i64 0, .nils, .bool false]) := by kernel_rfl
theorem by72 : (Tryz.prog.info? 72).map (·.bytes) = some 72 := by kernel_rfl
attribute [simp] cs72 ag72 ze72 by72 Tryz.underlying72
theorem cs73 : csize Tryz.prog 73 = some 1 := by kernel_rfl
theorem ag73 : aggT Tryz.prog 73 = some false := by kernel_rfl
theorem ze73 : zeroAV Tryz.prog 73 = some (.nilp) := by kernel_rfl
theorem by73 : (Tryz.prog.info? 73).map (·.bytes) = some 8 := by kernel_rfl
attribute [simp] cs73 ag73 ze73 by73 Tryz.underlying73
theorem cs74 : csize Tryz.prog 74 = some 1 := by kernel_rfl
theorem ag74 : aggT Tryz.prog 74 = some false := by kernel_rfl
theorem by74 : (Tryz.prog.info? 74).map (·.bytes) = some 0 := by kernel_rfl
attribute [simp] cs74 ag74 by74 Tryz.underlying74
theorem cs75 : csize Tryz.prog 75 = some 1 := by kernel_rfl
theorem ag75 : aggT Tryz.prog 75 = some false := by kernel_rfl
theorem ze75 : zeroAV Tryz.prog 75 = some (.nilf) := by kernel_rfl
theorem by75 : (Tryz.prog.info? 75).map (·.bytes) = some 8 := by kernel_rfl
attribute [simp] cs75 ag75 ze75 by75 Tryz.underlying75
theorem cs76 : csize Tryz.prog 76 = some 1 := by kernel_rfl
theorem ag76 : aggT Tryz.prog 76 = some false := by kernel_rfl
theorem ze76 : zeroAV Tryz.prog 76 = some (.nils) := by kernel_rfl
theorem by76 : (Tryz.prog.info? 76).map (·.bytes) = some 24 := by kernel_rfl
attribute [simp] cs76 ag76 ze76 by76 Tryz.underlying76
theorem cs77 : csize Tryz.prog 77 = some 1 := by kernel_rfl
theorem ag77 : aggT Tryz.prog 77 = some false := by kernel_rfl
theorem ze77 : zeroAV Tryz.prog 77 = some (.nilf) := by kernel_rfl
theorem by77 : (Tryz.prog.info? 77).map (·.bytes) = some 8 := by kernel_rfl
attribute [simp] cs77 ag77 ze77 by77 Tryz.underlying77
theorem cs78 : csize Tryz.prog 78 = some 1 := by kernel_rfl
theorem ag78 : aggT Tryz.prog 78 = some false := by kernel_rfl
theorem ze78 : zeroAV Tryz.prog 78 = some (.nilf) := by kernel_rfl
theorem by78 : (Tryz.prog.info? 78).map (·.bytes) = some 8 := by kernel_rfl
attribute [simp] cs78 ag78 ze78 by78 Tryz.underlying78
theorem cs79 : csize Tryz.prog 79 = some 1 := by kernel_rfl
theorem ag79 : aggT Tryz.prog 79 = some false := by kernel_rfl
theorem by79 : (Tryz.prog.info? 79).map (·.bytes) = some 0 := by kernel_rfl
attribute [simp] cs79 ag79 by79 Tryz.underlying79
theorem cs80 : csize Tryz.prog 80 = some 1 := by kernel_rfl
theorem ag80 : aggT Tryz.prog 80 = some false := by kernel_rfl
theorem ze80 : zeroAV Tryz.prog 80 = some (.nilf) := by kernel_rfl
theorem by80 : (Tryz.prog.info? 80).map (·.bytes) = some 8 := by kernel_rfl
attribute [simp] cs80 ag80 ze80 by80 Tryz.underlying80
theorem cs81 : csize Tryz.prog 81 = some 1 := by kernel_rfl
theorem ag81 : aggT Tryz.prog 81 = some false := by kernel_rfl
theorem ze81 : zeroAV Tryz.prog 81 = some (.nils) := by kernel_rfl
theorem by81 : (Tryz.prog.info? 81).map (·.bytes) = some 24 := by kernel_rfl
attribute [simp] cs81 ag81 ze81 by81 Tryz.underlying81
theorem cs82 : csize Tryz.prog 82 = some 4 := by kernel_rfl
theorem ag82 : aggT Tryz.prog 82 = some true := by kernel_rfl
theorem ze82 : zeroAV Tryz.prog 82 = some (.agg [.nils, .int .i64 0, .int .i64 0, .bool false]) := by kernel_rfl
theorem by82 : (Tryz.prog.info? 82).map (·.bytes) = some 48 := by kernel_rfl
attribute [simp] cs82 ag82 ze82 by82 Tryz.underlying82
theorem cs83 : csize Tryz.prog 83 = some 4 := by kernel_rfl
theorem ag83 : aggT Tryz.prog 83 = some true := by kernel_rfl
theorem ze83 : zeroAV Tryz.prog 83 = some (.agg [.nils, .int .i64 0, .int .i64 0, .bool false]) := by kernel_rfl
theorem by83 : (Tryz.prog.info? 83).map (·.bytes) = some 48 := by kernel_rfl
attribute [simp] cs83 ag83 ze83 by83 Tryz.underlying83
theorem cs84 : csize Tryz.prog 84 = some 1 := by kernel_rfl
theorem ag84 : aggT Tryz.prog 84 = some false := by kernel_rfl
theorem ze84 : zeroAV Tryz.prog 84 = some (.nilf) := by kernel_rfl
theorem by84 : (Tryz.prog.info? 84).map (·.bytes) = some 8 := by kernel_rfl
attribute [simp] cs84 ag84 ze84 by84 Tryz.underlying84
theorem cs85 : csize Tryz.prog 85 = some 3 := by kernel_rfl
theorem ag85 : aggT Tryz.prog 85 = some true := by kernel_rfl
theorem ze85 : zeroAV Tryz.prog 85 = some (.agg [.int .i64 0, .str [], .nils]) := by kernel_rfl
theorem by85 : (Tryz.prog.info? 85).map (·.bytes) = some 48 := by kernel_rfl
attribute [simp] cs85 ag85 ze85 by85 Tryz.underlying85
theorem cs86 : csize Tryz.prog 86 = some 3 := by kernel_rfl
theorem ag86 : aggT Tryz.prog 86 = some true := by kernel_rfl
theorem ze86 : zeroAV Tryz.prog 86 = some (.agg [.int .i64 0, .str [], .nils]) := by kernel_rfl
theorem by86 : (Tryz.prog.info? 86).map (·.bytes) = some 48 := by kernel_rfl
attribute [simp] cs86 ag86 ze86 by86 Tryz.underlying86
theorem cs87 : csize Tryz.prog 87 = some 1 := by kernel_rfl
theorem ag87 : aggT Tryz.prog 87 = some false := by kernel_rfl
theorem ze87 : zeroAV Tryz.prog 87 = some (.nilf) := by kernel_rfl
theorem by87 : (Tryz.prog.info? 87).map (·.bytes) = some 8 := by kernel_rfl
attribute [simp] cs87 ag87 ze87 by87 Tryz.underlying87
theorem cs88 : csize Tryz.prog 88 = some 1 := by kernel_rfl
theorem ag88 : aggT Tryz.prog 88 = some false := by kernel_rfl
theorem ze88 : zeroAV Tryz.prog 88 = some (.nilf) := by kernel_rfl
theorem by88 : (Tryz.prog.info? 88).map (·.bytes) = some 8 := by kernel_rfl
attribute [simp] cs88 ag88 ze88 by88 Tryz.underlying88
theorem cs89 : csize Tryz.prog 89 = some 3 := by kernel_rfl
theorem ag89 : aggT Tryz.prog 89 = some true := by kernel_rfl
theorem ze89 : zeroAV Tryz.prog 89 = some (.agg [.int .i64 0, .int .i64 0, .int .i64 0]) := by kernel_rfl
theorem by89 : (Tryz.prog.info? 89).map (·.bytes) = some 24 := by kernel_rfl
attribute [simp] cs89 ag89 ze89 by89 Tryz.underlying89
theorem cs90 : csize Tryz.prog 90 = some 1 := by kernel_rfl
theorem ag90 : aggT Tryz.prog 90 = some false := by kernel_rfl
theorem ze90 : zeroAV Tryz.prog 90 = some (.nilp) := by kernel_rfl
theorem by90 : (Tryz.prog.info? 90).map (·.bytes) = some 8 := by kernel_rfl
attribute [simp] cs90 ag90 ze90 by90 Tryz.underlying90
theorem cs91 : csize Tryz.prog 91 = some 1 := by kernel_rfl
theorem ag91 : aggT Tryz.prog 91 = some false := by kernel_rfl
theorem by91 : (Tryz.prog.info? 91).map (·.bytes) = some 0 := by kernel_rfl
attribute [simp] cs91 ag91 by91 Tryz.underlying91
theorem cs92 : csize Tryz.prog 92 = some 1 := by kernel_rfl
theorem ag92 : aggT Tryz.prog 92 = some false := by kernel_rfl
theorem ze92 : zeroAV Tryz.prog 92 = some (.nilf) := by kernel_rfl
theorem by92 : (Tryz.prog.info? 92).map (·.bytes) = some 8 := by kernel_rfl
attribute [simp] cs92 ag92 ze92 by92 Tryz.underlying92
theorem cs93 : csize Tryz.prog 93 = some 3 := by kernel_rfl
theorem ag93 : aggT Tryz.prog 93 = some true := by kernel_rfl
theorem ze93 : zeroAV Tryz.prog 93 = some (.agg [.int .i64 0, .int .i64 0, .int .i64 0]) := by kernel_rfl
theorem by93 : (Tryz.prog.info? 93).map (·.bytes) = some 24 := by kernel_rfl
attribute [simp] cs93 ag93 ze93 by93 Tryz.underlying93
theorem cs94 : csize Tryz.prog 94 = some 3 := by kernel_rfl
theorem ag94 : aggT Tryz.prog 94 = some true := by kernel_rfl
theorem ze94 : zeroAV Tryz.prog 94 = some (.agg [.int .i64 0, .int .i64 0, .int .i64 0]) := by kernel_rfl
theorem by94 : (Tryz.prog.info? 94).map (·.bytes) = some 24 := by kernel_rfl
attribute [simp] cs94 ag94 ze94 by94 Tryz.underlying94
theorem cs95 : csize Tryz.prog 95 = some 26 := by kernel_rfl
theorem ag95 : aggT Tryz.prog 95 = some true := by kernel_rfl
theorem ze95 : zeroAV Tryz.prog 95 = some (.agg [.int .i64 0, .int .i64 0, .int .i64 0, .bool false, .int .i64 0, .int .i64 0, .nils, .nils, .nils, .bool false, .int .u64 0, .int .u64 0, .int .i64 0, .int .i64 0, .int .i64 0, .int .i64 0, .nils, .int .i64 0, .int .i64 0, .int .i64 0, .int .i64 0, .int .i64 0, .int .i64 0, .bool false, .nils, .str []]) := by kernel_rfl
theorem by95 : (Tryz.prog.info? 95).map (·.bytes) = some 296 := by kernel_rfl
attribute [simp] cs95 ag95 ze95 by95 Tryz.underlying95
theorem cs96 : csize Tryz.prog 96 = some 26 := by kernel_rfl
theorem ag96 : aggT Tryz.prog 96 = some true := by kernel_rfl
theorem ze96 : zeroAV Tryz.prog 96 = some (.agg [.int .i64 0, .int .i64 0, .int .i64 0, .bool false, .int .i64 0, .int .i64 0, .nils, .nils, .nils, .bool false, .int .u64 0, .int .u64 0, .int .i64 0, .int .i64 0, .int .i64 0, .int .i64 0, .nils, .int .i64 0, .int .i64 0, .int .i64 0, .int .i64 0, .int .i64 0, .int .i64 0, .bool false, .nils, .str []]) := by kernel_rfl
theorem by96 : (Tryz.prog.info? 96).map (·.bytes) = some 296 := by kernel_rfl
attribute [simp] cs96 ag96 ze96 by96 Tryz.underlying96
theorem cs97 : csize Tryz.prog 97 = some 1 := by kernel_rfl
theorem ag97 : aggT Tryz.prog 97 = some false := by kernel_rfl
theorem by97 : (Tryz.prog.info? 97).map (·.bytes) = some 0 := by kernel_rfl
attribute [simp] cs97 ag97 by97 Tryz.underlying97
theorem cs98 : csize Tryz.prog 98 = some 1 := by kernel_rfl
theorem ag98 : aggT Tryz.prog 98 = some false := by kernel_rfl
theorem ze98 : zeroAV Tryz.prog 98 = some (.nilf) := by kernel_rfl
theorem by98 : (Tryz.prog.info? 98).map (·.bytes) = some 8 := by kernel_rfl
attribute [simp] cs98 ag98 ze98 by98 Tryz.underlying98
theorem cs99 : csize Tryz.prog 99 = some 1 := by kernel_rfl
theorem ag99 : aggT Tryz.prog 99 = some false := by kernel_rfl
theorem ze99 : zeroAV Tryz.prog 99 = some (.nilf) := by kernel_rfl
theorem by99 : (Tryz.prog.info? 99).map (·.bytes) = some 8 := by kernel_rfl
attribute [simp] cs99 ag99 ze99 by99 Tryz.underlying99
theorem cs100 : csize Tryz.prog 100 = some 1 := by kernel_rfl
theorem ag100 : aggT Tryz.prog 100 = some false := by kernel_rfl
theorem by100 : (Tryz.prog.info? 100).map (·.bytes) = some 0 := by kernel_rfl
attribute [simp] cs100 ag100 by100 Tryz.underlying100
theorem cs101 : csize Tryz.prog 101 = some 1 := by kernel_rfl
theorem ag101 : aggT Tryz.prog 101 = some false := by kernel_rfl
theorem ze101 : zeroAV Tryz.prog 101 = some (.nilf) := by kernel_rfl
theorem by101 : (Tryz.prog.info? 101).map (·.bytes) = some 8 := by kernel_rfl
attribute [simp] cs101 ag101 ze101 by101 Tryz.underlying101
theorem cs102 : csize Tryz.prog 102 = some 1 := by kernel_rfl
theorem ag102 : aggT Tryz.prog 102 = some false := by kernel_rfl
theorem ze102 : zeroAV Tryz.prog 102 = some (.nilf) := by kernel_rfl
theorem by102 : (Tryz.prog.info? 102).map (·.bytes) = some 8 := by kernel_rfl
attribute [simp] cs102 ag102 ze102 by102 Tryz.underlying102
theorem cs103 : csize Tryz.prog 103 = some 1 := by kernel_rfl
theorem ag103 : aggT Tryz.prog 103 = some false := by kernel_rfl
theorem ze103 : zeroAV Tryz.prog 103 = some (.nils) := by kernel_rfl
theorem by103 : (Tryz.prog.info? 103).map (·.bytes) = some 24 := by kernel_rfl
attribute [simp] cs103 ag103 ze103 by103 Tryz.underlying103
theorem cs104 : csize Tryz.prog 104 = some 1 := by kernel_rfl
theorem ag104 : aggT Tryz.prog 104 = some false := by kernel_rfl
theorem ze104 : zeroAV Tryz.prog 104 = some (.nilf) := by kernel_rfl
theorem by104 : (Tryz.prog.info? 104).map (·.bytes) = some 8 := by kernel_rfl
attribute [simp] cs104 ag104 ze104 by104 Tryz.underlying104
theorem cs105 : csize Tryz.prog 105 = some 1 := by kernel_rfl
theorem ag105 : aggT Tryz.prog 105 = some false := by kernel_rfl
theorem ze105 : zeroAV Tryz.prog 105 = some (.nilf) := by kernel_rfl
theorem by105 : (Tryz.prog.info? 105).map (·.bytes) = some 8 := by kernel_rfl
attribute [simp] cs105 ag105 ze105 by105 Tryz.underlying105
theorem cs106 : csize Tryz.prog 106 = some 1 := by kernel_rfl
theorem ag106 : aggT Tryz.prog 106 = some false := by kernel_rfl
theorem ze106 : zeroAV Tryz.prog 106 = some (.nils) := by kernel_rfl
theorem by106 : (Tryz.prog.info? 106).map (·.bytes) = some 24 := by kernel_rfl
attribute [simp] cs106 ag106 ze106 by106 Tryz.underlying106
theorem cs107 : csize Tryz.prog 107 = some 1 := by kernel_rfl
theorem ag107 : aggT Tryz.prog 107 = some false := by kernel_rfl
theorem ze107 : zeroAV Tryz.prog 107 = some (.nilp) := by kernel_rfl
theorem by107 : (Tryz.prog.info? 107).map (·.bytes) = some 8 := by kernel_rfl
attribute [simp] cs107 ag107 ze107 by107 Tryz.underlying107
theorem cs108 : csize Tryz.prog 108 = some 1 := by kernel_rfl
theorem ag108 : aggT Tryz.prog 108 = some false := by kernel_rfl
theorem by108 : (Tryz.prog.info? 108).map (·.bytes) = some 0 := by kernel_rfl
attribute [simp] cs108 ag108 by108 Tryz.underlying108
theorem cs109 : csize Tryz.prog 109 = some 1 := by kernel_rfl
theorem ag109 : aggT Tryz.prog 109 = some false := by kernel_rfl
theorem ze109 : zeroAV Tryz.prog 109 = some (.nilf) := by kernel_rfl
theorem by109 : (Tryz.prog.info? 109).map (·.bytes) = some 8 := by kernel_rfl
attribute [simp] cs109 ag109 ze109 by109 Tryz.underlying109
theorem cs110 : csize Tryz.prog 110 = some 5 := by kernel_rfl
theorem ag110 : aggT Tryz.prog 110 = some true := by kernel_rfl
theorem ze110 : zeroAV Tryz.prog 110 = some (.agg [.int .i64 0, .str [], .int .i64 0, .int .i64 0, .bool false]) := by kernel_rfl
theorem by110 : (Tryz.prog.info? 110).map (·.bytes) = some 48 := by kernel_rfl
attribute [simp] cs110 ag110 ze110 by110 Tryz.underlying110
theorem cs111 : csize Tryz.prog 111 = some 5 := by kernel_rfl
theorem ag111 : aggT Tryz.prog 111 = some true := by kernel_rfl
theorem ze111 : zeroAV Tryz.prog 111 = some (.agg [.int .i64 0, .str [], .int .i64 0, .int .i64 0, .bool false]) := by kernel_rfl
theorem by111 : (Tryz.prog.info? 111).map (·.bytes) = some 48 := by kernel_rfl
attribute [simp] cs111 ag111 ze111 by111 Tryz.underlying111
theorem cs112 : csize Tryz.prog 112 = some 1 := by kernel_rfl
theorem ag112 : aggT Tryz.prog 112 = some false := by kernel_rfl
theorem by112 : (Tryz.prog.info? 112).map (·.bytes) = some 0 := by kernel_rfl
attribute [simp] cs112 ag112 by112 Tryz.underlying112
theorem cs113 : csize Tryz.prog 113 = some 1 := by kernel_rfl
theorem ag113 : aggT Tryz.prog 113 = some false := by kernel_rfl
theorem ze113 : zeroAV Tryz.prog 113 = some (.nilf) := by kernel_rfl
theorem by113 : (Tryz.prog.info? 113).map (·.bytes) = some 8 := by kernel_rfl
attribute [simp] cs113 ag113 ze113 by113 Tryz.underlying113
theorem cs114 : csize Tryz.prog 114 = some 1 := by kernel_rfl
theorem ag114 : aggT Tryz.prog 114 = some false := by kernel_rfl
theorem ze114 : zeroAV Tryz.prog 114 = some (.nilf) := by kernel_rfl
theorem by114 : (Tryz.prog.info? 114).map (·.bytes) = some 8 := by kernel_rfl
attribute [simp] cs114 ag114 ze114 by114 Tryz.underlying114
theorem cs115 : csize Tryz.prog 115 = some 1 := by kernel_rfl
theorem ag115 : aggT Tryz.prog 115 = some false := by kernel_rfl
theorem ze115 : zeroAV Tryz.prog 115 = some (.nilf) := by kernel_rfl
theorem by115 : (Tryz.prog.info? 115).map (·.bytes) = some 8 := by kernel_rfl
attribute [simp] cs115 ag115 ze115 by115 Tryz.underlying115
theorem cs116 : csize Tryz.prog 116 = some 1 := by kernel_rfl
theorem ag116 : aggT Tryz.prog 116 = some false := by kernel_rfl
theorem ze116 : zeroAV Tryz.prog 116 = some (.nilf) := by kernel_rfl
theorem by116 : (Tryz.prog.info? 116).map (·.bytes) = some 8 := by kernel_rfl
attribute [simp] cs116 ag116 ze116 by116 Tryz.underlying116
theorem cs117 : csize Tryz.prog 117 = some 1 := by kernel_rfl
theorem ag117 : aggT Tryz.prog 117 = some false := by kernel_rfl
theorem ze117 : zeroAV Tryz.prog 117 = some (.nilf) := by kernel_rfl
theorem by117 : (Tryz.prog.info? 117).map (·.bytes) = some 8 := by kernel_rfl
attribute [simp] cs117 ag117 ze117 by117 Tryz.underlying117
theorem cs118 : csize Tryz.prog 118 = some 1 := by kernel_rfl
theorem ag118 : aggT Tryz.prog 118 = some false := by kernel_rfl
theorem ze118 : zeroAV Tryz.prog 118 = some (.nilf) := by kernel_rfl
theorem by118 : (Tryz.prog.info? 118).map (·.bytes) = some 8 := by kernel_rfl
attribute [simp] cs118 ag118 ze118 by118 Tryz.underlying118
theorem cs119 : csize Tryz.prog 119 = some 1 := by kernel_rfl
theorem ag119 : aggT Tryz.prog 119 = some false := by kernel_rfl
theorem ze119 : zeroAV Tryz.prog 119 = some (.nilf) := by kernel_rfl
theorem by119 : (Tryz.prog.info? 119).map (·.bytes) = some 8 := by kernel_rfl
attribute [simp] cs119 ag119 ze119 by119 Tryz.underlying119
theorem cs120 : csize Tryz.prog 120 = some 1 := by kernel_rfl
theorem ag120 : aggT Tryz.prog 120 = some false := by kernel_rfl
theorem ze120 : zeroAV Tryz.prog 120 = some (.flt .f64 0) := by kernel_rfl
theorem by120 : (Tryz.prog.info? 120).map (·.bytes) = some 8 := by kernel_rfl
attribute [simp] cs120 ag120 ze120 by120 Tryz.underlying120
theorem cs121 : csize Tryz.prog 121 = some 5 := by kernel_rfl
theorem ag121 : aggT Tryz.prog 121 = some true := by kernel_rfl
theorem ze121 : zeroAV Tryz.prog 121 = some (.agg [.int .i64 0, .int .i64 0, .int .i64 0, .int .i64 0, .flt .f64 0]) := by kernel_rfl
theorem by121 : (Tryz.prog.info? 121).map (·.bytes) = some 40 := by kernel_rfl
attribute [simp] cs121 ag121 ze121 by121 Tryz.underlying121
theorem cs122 : csize Tryz.prog 122 = some 5 := by kernel_rfl
theorem ag122 : aggT Tryz.prog 122 = some true := by kernel_rfl
theorem ze122 : zeroAV Tryz.prog 122 = some (.agg [.int .i64 0, .int .i64 0, .int .i64 0, .int .i64 0, .flt .f64 0]) := by kernel_rfl
theorem by122 : (Tryz.prog.info? 122).map (·.bytes) = some 40 := by kernel_rfl
attribute [simp] cs122 ag122 ze122 by122 Tryz.underlying122
theorem cs123 : csize Tryz.prog 123 = some 1 := by kernel_rfl
theorem ag123 : aggT Tryz.prog 123 = some false := by kernel_rfl
theorem ze123 : zeroAV Tryz.prog 123 = some (.nilf) := by kernel_rfl
theorem by123 : (Tryz.prog.info? 123).map (·.bytes) = some 8 := by kernel_rfl
attribute [simp] cs123 ag123 ze123 by123 Tryz.underlying123
theorem cs124 : csize Tryz.prog 124 = some 1 := by kernel_rfl
theorem ag124 : aggT Tryz.prog 124 = some false := by kernel_rfl
theorem ze124 : zeroAV Tryz.prog 124 = some (.nilf) := by kernel_rfl
theorem by124 : (Tryz.prog.info? 124).map (·.bytes) = some 8 := by kernel_rfl
attribute [simp] cs124 ag124 ze124 by124 Tryz.underlying124
theorem cs125 : csize Tryz.prog 125 = some 2 := by kernel_rfl
theorem ag125 : aggT Tryz.prog 125 = some true := by kernel_rfl
theorem ze125 : zeroAV Tryz.prog 125 = some (.agg [.int .i64 0, .int .i64 0]) := by kernel_rfl
theorem by125 : (Tryz.prog.info? 125).map (·.bytes) = some 16 := by kernel_rfl
attribute [simp] cs125 ag125 ze125 by125 Tryz.underlying125
theorem cs126 : csize Tryz.prog 126 = some 1 := by kernel_rfl
theorem ag126 : aggT Tryz.prog 126 = some false := by kernel_rfl
theorem ze126 : zeroAV Tryz.prog 126 = some (.nilp) := by kernel_rfl
theorem by126 : (Tryz.prog.info? 126).map (·.bytes) = some 8 := by kernel_rfl
attribute [simp] cs126 ag126 ze126 by126 Tryz.underlying126
theorem cs127 : csize Tryz.prog 127 = some 1 := by kernel_rfl
theorem ag127 : aggT Tryz.prog 127 = some false := by kernel_rfl
theorem by127 : (Tryz.prog.info? 127).map (·.bytes) = some 0 := by kernel_rfl
attribute [simp] cs127 ag127 by127 Tryz.underlying127
theorem cs128 : csize Tryz.prog 128 = some 1 := by kernel_rfl
theorem ag128 : aggT Tryz.prog 128 = some false := by kernel_rfl
theorem ze128 : zeroAV Tryz.prog 128 = some (.nilf) := by kernel_rfl
theorem by128 : (Tryz.prog.info? 128).map (·.bytes) = some 8 := by kernel_rfl
attribute [simp] cs128 ag128 ze128 by128 Tryz.underlying128
theorem cs129 : csize Tryz.prog 129 = some 1 := by kernel_rfl
theorem ag129 : aggT Tryz.prog 129 = some false := by kernel_rfl
theorem ze129 : zeroAV Tryz.prog 129 = some (.nilp) := by kernel_rfl
theorem by129 : (Tryz.prog.info? 129).map (·.bytes) = some 8 := by kernel_rfl
attribute [simp] cs129 ag129 ze129 by129 Tryz.underlying129
theorem cs130 : csize Tryz.prog 130 = some 1 := by kernel_rfl
theorem ag130 : aggT Tryz.prog 130 = some false := by kernel_rfl
theorem by130 : (Tryz.prog.info? 130).map (·.bytes) = some 0 := by kernel_rfl
attribute [simp] cs130 ag130 by130 Tryz.underlying130
theorem cs131 : csize Tryz.prog 131 = some 1 := by kernel_rfl
theorem ag131 : aggT Tryz.prog 131 = some false := by kernel_rfl
theorem ze131 : zeroAV Tryz.prog 131 = some (.nilf) := by kernel_rfl
theorem by131 : (Tryz.prog.info? 131).map (·.bytes) = some 8 := by kernel_rfl
attribute [simp] cs131 ag131 ze131 by131 Tryz.underlying131
theorem cs132 : csize Tryz.prog 132 = some 1 := by kernel_rfl
theorem ag132 : aggT Tryz.prog 132 = some false := by kernel_rfl
theorem ze132 : zeroAV Tryz.prog 132 = some (.nilf) := by kernel_rfl
theorem by132 : (Tryz.prog.info? 132).map (·.bytes) = some 8 := by kernel_rfl
attribute [simp] cs132 ag132 ze132 by132 Tryz.underlying132
theorem cs133 : csize Tryz.prog 133 = some 1 := by kernel_rfl
theorem ag133 : aggT Tryz.prog 133 = some false := by kernel_rfl
theorem ze133 : zeroAV Tryz.prog 133 = some (.nils) := by kernel_rfl
theorem by133 : (Tryz.prog.info? 133).map (·.bytes) = some 24 := by kernel_rfl
attribute [simp] cs133 ag133 ze133 by133 Tryz.underlying133
theorem cs134 : csize Tryz.prog 134 = some 4 := by kernel_rfl
theorem ag134 : aggT Tryz.prog 134 = some true := by kernel_rfl
theorem ze134 : zeroAV Tryz.prog 134 = some (.agg [.nils, .int .i64 0, .int .i64 0, .bool false]) := by kernel_rfl
theorem by134 : (Tryz.prog.info? 134).map (·.bytes) = some 48 := by kernel_rfl
attribute [simp] cs134 ag134 ze134 by134 Tryz.underlying134
theorem cs135 : csize Tryz.prog 135 = some 4 := by kernel_rfl
theorem ag135 : aggT Tryz.prog 135 = some true := by kernel_rfl
theorem ze135 : zeroAV Tryz.prog 135 = some (.agg [.nils, .int .i64 0, .int .i64 0, .bool false]) := by kernel_rfl
theorem by135 : (Tryz.prog.info? 135).map (·.bytes) = some 48 := by kernel_rfl
attribute [simp] cs135 ag135 ze135 by135 Tryz.underlying135
theorem cs136 : csize Tryz.prog 136 = some 1 := by kernel_rfl
theorem ag136 : aggT Tryz.prog 136 = some false := by kernel_rfl
theorem ze136 : zeroAV Tryz.prog 136 = some (.nilf) := by kernel_rfl
theorem by136 : (Tryz.prog.info? 136).map (·.bytes) = some 8 := by kernel_rfl
attribute [simp] cs136 ag136 ze136 by136 Tryz.underlying136
theorem cs137 : csize Tryz.prog 137 = some 1 := by kernel_rfl
theorem ag137 : aggT Tryz.prog 137 = some false := by kernel_rfl
theorem ze137 : zeroAV Tryz.prog 137 = some (.nilf) := by kernel_rfl
theorem by137 : (Tryz.prog.info? 137).map (·.bytes) = some 8 := by kernel_rfl
attribute [simp] cs137 ag137 ze137 by137 Tryz.underlying137
theorem cs138 : csize Tryz.prog 138 = some 1 := by kernel_rfl
theorem ag138 : aggT Tryz.prog 138 = some false := by kernel_rfl
theorem ze138 : zeroAV Tryz.prog 138 = some (.nils) := by kernel_rfl
theorem by138 : (Tryz.prog.info? 138).map (·.bytes) = some 24 := by kernel_rfl
attribute [simp] cs138 ag138 ze138 by138 Tryz.underlying138
theorem cs139 : csize Tryz.prog 139 = some 1 := by kernel_rfl
theorem ag139 : aggT Tryz.prog 139 = some false := by kernel_rfl
theorem ze139 : zeroAV Tryz.prog 139 = some (.nilf) := by kernel_rfl
theorem by139 : (Tryz.prog.info? 139).map (·.bytes) = some 8 := by kernel_rfl
attribute [simp] cs139 ag139 ze139 by139 Tryz.underlying139
theorem cs140 : csize Tryz.prog 140 = some 1 := by kernel_rfl
theorem ag140 : aggT Tryz.prog 140 = some false := by kernel_rfl
theorem ze140 : zeroAV Tryz.prog 140 = some (.nilf) := by kernel_rfl
theorem by140 : (Tryz.prog.info? 140).map (·.bytes) = some 8 := by kernel_rfl
attribute [simp] cs140 ag140 ze140 by140 Tryz.underlying140
theorem cs141 : csize Tryz.prog 141 = some 1 := by kernel_rfl
theorem ag141 : aggT Tryz.prog 141 = some false := by kernel_rfl
theorem by141 : (Tryz.prog.info? 141).map (·.bytes) = some 0 := by kernel_rfl
attribute [simp] cs141 ag141 by141 Tryz.underlying141
theorem cs142 : csize Tryz.prog 142 = some 1 := by kernel_rfl
theorem ag142 : aggT Tryz.prog 142 = some false := by kernel_rfl
theorem ze142 : zeroAV Tryz.prog 142 = some (.nilf) := by kernel_rfl
theorem by142 : (Tryz.prog.info? 142).map (·.bytes) = some 8 := by kernel_rfl
attribute [simp] cs142 ag142 ze142 by142 Tryz.underlying142
theorem cs143 : csize Tryz.prog 143 = some 1 := by kernel_rfl
theorem ag143 : aggT Tryz.prog 143 = some false := by kernel_rfl
theorem by143 : (Tryz.prog.info? 143).map (·.bytes) = some 0 := by kernel_rfl
attribute [simp] cs143 ag143 by143 Tryz.underlying143
theorem cs144 : csize Tryz.prog 144 = some 1 := by kernel_rfl
theorem ag144 : aggT Tryz.prog 144 = some false := by kernel_rfl
theorem ze144 : zeroAV Tryz.prog 144 = some (.nilf) := by kernel_rfl
theorem by144 : (Tryz.prog.info? 144).map (·.bytes) = some 8 := by kernel_rfl
attribute [simp] cs144 ag144 ze144 by144 Tryz.underlying144
theorem cs145 : csize Tryz.prog 145 = some 1 := by kernel_rfl
theorem ag145 : aggT Tryz.prog 145 = some false := by kernel_rfl
theorem ze145 : zeroAV Tryz.prog 145 = some (.nilf) := by kernel_rfl
theorem by145 : (Tryz.prog.info? 145).map (·.bytes) = some 8 := by kernel_rfl
attribute [simp] cs145 ag145 ze145 by145 Tryz.underlying145
theorem cs146 : csize Tryz.prog 146 = some 1 := by kernel_rfl
theorem ag146 : aggT Tryz.prog 146 = some false := by kernel_rfl
theorem ze146 : zeroAV Tryz.prog 146 = some (.nilf) := by kernel_rfl
theorem by146 : (Tryz.prog.info? 146).map (·.bytes) = some 8 := by kernel_rfl
attribute [simp] cs146 ag146 ze146 by146 Tryz.underlying146
theorem cs147 : csize Tryz.prog 147 = some 1 := by kernel_rfl
theorem ag147 : aggT Tryz.prog 147 = some false := by kernel_rfl
theorem ze147 : zeroAV Tryz.prog 147 = some (.nilp) := by kernel_rfl
theorem by147 : (Tryz.prog.info? 147).map (·.bytes) = some 8 := by kernel_rfl
attribute [simp] cs147 ag147 ze147 by147 Tryz.underlying147
theorem cs148 : csize Tryz.prog 148 = some 1 := by kernel_rfl
theorem ag148 : aggT Tryz.prog 148 = some false := by kernel_rfl
theorem by148 : (Tryz.prog.info? 148).map (·.bytes) = some 0 := by kernel_rfl
attribute [simp] cs148 ag148 by148 Tryz.underlying148
theorem cs149 : csize Tryz.prog 149 = some 1 := by kernel_rfl
theorem ag149 : aggT Tryz.prog 149 = some false := by kernel_rfl
theorem ze149 : zeroAV Tryz.prog 149 = some (.nilf) := by kernel_rfl
theorem by149 : (Tryz.prog.info? 149).map (·.bytes) = some 8 := by kernel_rfl
attribute [simp] cs149 ag149 ze149 by149 Tryz.underlying149
theorem cs150 : csize Tryz.prog 150 = some 3 := by kernel_rfl
theorem ag150 : aggT Tryz.prog 150 = some true := by kernel_rfl
theorem ze150 : zeroAV Tryz.prog 150 = some (.agg [.int .i64 0, .int .i64 0, .nils]) := by kernel_rfl
theorem by150 : (Tryz.prog.info? 150).map (·.bytes) = some 40 := by kernel_rfl
attribute [simp] cs150 ag150 ze150 by150 Tryz.underlying150
theorem cs151 : csize Tryz.prog 151 = some 3 := by kernel_rfl
theorem ag151 : aggT Tryz.prog 151 = some true := by kernel_rfl
theorem ze151 : zeroAV Tryz.prog 151 = some (.agg [.int .i64 0, .int .i64 0, .nils]) := by kernel_rfl
theorem by151 : (Tryz.prog.info? 151).map (·.bytes) = some 40 := by kernel_rfl
attribute [simp] cs151 ag151 ze151 by151 Tryz.underlying151
theorem cs152 : csize Tryz.prog 152 = some 3 := by kernel_rfl
theorem ag152 : aggT Tryz.prog 152 = some true := by kernel_rfl
theorem ze152 : zeroAV Tryz.prog 152 = some (.agg [.int .i64 0, .int .i64 0, .int .u64 0]) := by kernel_rfl
theorem by152 : (Tryz.prog.info? 152).map (·.bytes) = some 24 := by kernel_rfl
attribute [simp] cs152 ag152 ze152 by152 Tryz.underlying152
theorem cs153 : csize Tryz.prog 153 = some 3 := by kernel_rfl
theorem ag153 : aggT Tryz.prog 153 = some true := by kernel_rfl
theorem ze153 : zeroAV Tryz.prog 153 = some (.agg [.int .i64 0, .int .i64 0, .int .u64 0]) := by kernel_rfl
theorem by153 : (Tryz.prog.info? 153).map (·.bytes) = some 24 := by kernel_rfl
attribute [simp] cs153 ag153 ze153 by153 Tryz.underlying153
theorem cs154 : csize Tryz.prog 154 = some 12 := by kernel_rfl
theorem ag154 : aggT Tryz.prog 154 = some true := by kernel_rfl
theorem ze154 : zeroAV Tryz.prog 154 = some (.agg [.int .i64 0, .int .u64 0, .int .u64 0, .int .i64 0, .int .i64 0, .int .u32 0, .int .u32 0, .int .i64 0, .int .i64 0, .int .i64 0, .int .i64 0, .str []]) := by kernel_rfl
theorem by154 : (Tryz.prog.info? 154).map (·.bytes) = some 96 := by kernel_rfl
attribute [simp] cs154 ag154 ze154 by154 Tryz.underlying154
theorem cs155 : csize Tryz.prog 155 = some 12 := by kernel_rfl
theorem ag155 : aggT Tryz.prog 155 = some true := by kernel_rfl
theorem ze155 : zeroAV Tryz.prog 155 = some (.agg [.int .i64 0, .int .u64 0, .int .u64 0, .int .i64 0, .int .i64 0, .int .u32 0, .int .u32 0, .int .i64 0, .int .i64 0, .int .i64 0, .int .i64 0, .str []]) := by kernel_rfl
theorem by155 : (Tryz.prog.info? 155).map (·.bytes) = some 96 := by kernel_rfl
attribute [simp] cs155 ag155 ze155 by155 Tryz.underlying155
theorem cs156 : csize Tryz.prog 156 = some 12 := by kernel_rfl
theorem ag156 : aggT Tryz.prog 156 = some true := by kernel_rfl
theorem ze156 : zeroAV Tryz.prog 156 = some (.agg [.int .i64 0, .int .u64 0, .int .u64 0, .int .i64 0, .int .i64 0, .int .u32 0, .int .u32 0, .int .i64 0, .int .i64 0, .int .i64 0, .int .i64 0, .str []]) := by kernel_rfl
theorem by156 : (Tryz.prog.info? 156).map (·.bytes) = some 96 := by kernel_rfl
attribute [simp] cs156 ag156 ze156 by156 Tryz.underlying156
theorem cs157 : csize Tryz.prog 157 = some 1 := by kernel_rfl
theorem ag157 : aggT Tryz.prog 157 = some false := by kernel_rfl
theorem ze157 : zeroAV Tryz.prog 157 = some (.nilp) := by kernel_rfl
theorem by157 : (Tryz.prog.info? 157).map (·.bytes) = some 8 := by kernel_rfl
attribute [simp] cs157 ag157 ze157 by157 Tryz.underlying157
theorem cs158 : csize Tryz.prog 158 = some 7 := by kernel_rfl
theorem ag158 : aggT Tryz.prog 158 = some true := by kernel_rfl
theorem ze158 : zeroAV Tryz.prog 158 = some (.agg [.nilp, .nilp, .nils, .nils, .int .i64 0, .nils, .int .i64 0]) := by kernel_rfl
theorem by158 : (Tryz.prog.info? 158).map (·.bytes) = some 104 := by kernel_rfl
attribute [simp] cs158 ag158 ze158 by158 Tryz.underlying158
theorem cs159 : csize Tryz.prog 159 = some 7 := by kernel_rfl
theorem ag159 : aggT Tryz.prog 159 = some true := by kernel_rfl
theorem ze159 : zeroAV Tryz.prog 159 = some (.agg [.nilp, .nilp, .nils, .nils, .int .i64 0, .nils, .int .i64 0]) := by kernel_rfl
theorem by159 : (Tryz.prog.info? 159).map (·.bytes) = some 104 := by kernel_rfl
attribute [simp] cs159 ag159 ze159 by159 Tryz.underlying159
theorem cs160 : csize Tryz.prog 160 = some 1 := by kernel_rfl
theorem ag160 : aggT Tryz.prog 160 = some false := by kernel_rfl
theorem by160 : (Tryz.prog.info? 160).map (·.bytes) = some 0 := by kernel_rfl
attribute [simp] cs160 ag160 by160 Tryz.underlying160
theorem cs161 : csize Tryz.prog 161 = some 1 := by kernel_rfl
theorem ag161 : aggT Tryz.prog 161 = some false := by kernel_rfl
theorem ze161 : zeroAV Tryz.prog 161 = some (.nilf) := by kernel_rfl
theorem by161 : (Tryz.prog.info? 161).map (·.bytes) = some 8 := by kernel_rfl
attribute [simp] cs161 ag161 ze161 by161 Tryz.underlying161
theorem cs162 : csize Tryz.prog 162 = some 1 := by kernel_rfl
theorem ag162 : aggT Tryz.prog 162 = some false := by kernel_rfl
theorem ze162 : zeroAV Tryz.prog 162 = some (.nilf) := by kernel_rfl
theorem by162 : (Tryz.prog.info? 162).map (·.bytes) = some 8 := by kernel_rfl
attribute [simp] cs162 ag162 ze162 by162 Tryz.underlying162
theorem cs163 : csize Tryz.prog 163 = some 1 := by kernel_rfl
theorem ag163 : aggT Tryz.prog 163 = some false := by kernel_rfl
theorem ze163 : zeroAV Tryz.prog 163 = some (.nilf) := by kernel_rfl
theorem by163 : (Tryz.prog.info? 163).map (·.bytes) = some 8 := by kernel_rfl
attribute [simp] cs163 ag163 ze163 by163 Tryz.underlying163
theorem cs164 : csize Tryz.prog 164 = some 1 := by kernel_rfl
theorem ag164 : aggT Tryz.prog 164 = some false := by kernel_rfl
theorem ze164 : zeroAV Tryz.prog 164 = some (.nilf) := by kernel_rfl
theorem by164 : (Tryz.prog.info? 164).map (·.bytes) = some 8 := by kernel_rfl
attribute [simp] cs164 ag164 ze164 by164 Tryz.underlying164
theorem cs165 : csize Tryz.prog 165 = some 1 := by kernel_rfl
theorem ag165 : aggT Tryz.prog 165 = some false := by kernel_rfl
theorem ze165 : zeroAV Tryz.prog 165 = some (.nilf) := by kernel_rfl
theorem by165 : (Tryz.prog.info? 165).map (·.bytes) = some 8 := by kernel_rfl
attribute [simp] cs165 ag165 ze165 by165 Tryz.underlying165
theorem cs166 : csize Tryz.prog 166 = some 8 := by kernel_rfl
theorem ag166 : aggT Tryz.prog 166 = some true := by kernel_rfl
theorem ze166 : zeroAV Tryz.prog 166 = some (.agg [.nils, .nils, .nils, .nils, .nils, .nils, .nils, .nils]) := by kernel_rfl
theorem by166 : (Tryz.prog.info? 166).map (·.bytes) = some 192 := by kernel_rfl
attribute [simp] cs166 ag166 ze166 by166 Tryz.underlying166
theorem cs167 : csize Tryz.prog 167 = some 9 := by kernel_rfl
theorem ag167 : aggT Tryz.prog 167 = some true := by kernel_rfl
theorem ze167 : zeroAV Tryz.prog 167 = some (.agg [.int .i64 0, .nils, .nils, .nils, .nils, .nils, .nils, .nils, .nils]) := by kernel_rfl
theorem by167 : (Tryz.prog.info? 167).map (·.bytes) = some 200 := by kernel_rfl
attribute [simp] cs167 ag167 ze167 by167 Tryz.underlying167
theorem cs168 : csize Tryz.prog 168 = some 9 := by kernel_rfl
theorem ag168 : aggT Tryz.prog 168 = some true := by kernel_rfl
theorem ze168 : zeroAV Tryz.prog 168 = some (.agg [.int .i64 0, .nils, .nils, .nils, .nils, .nils, .nils, .nils, .nils]) := by kernel_rfl
theorem by168 : (Tryz.prog.info? 168).map (·.bytes) = some 200 := by kernel_rfl
attribute [simp] cs168 ag168 ze168 by168 Tryz.underlying168
theorem cs169 : csize Tryz.prog 169 = some 1 := by kernel_rfl
theorem ag169 : aggT Tryz.prog 169 = some false := by kernel_rfl
theorem ze169 : zeroAV Tryz.prog 169 = some (.nilf) := by kernel_rfl
theorem by169 : (Tryz.prog.info? 169).map (·.bytes) = some 8 := by kernel_rfl
attribute [simp] cs169 ag169 ze169 by169 Tryz.underlying169
theorem cs170 : csize Tryz.prog 170 = some 1 := by kernel_rfl
theorem ag170 : aggT Tryz.prog 170 = some false := by kernel_rfl
theorem ze170 : zeroAV Tryz.prog 170 = some (.nilf) := by kernel_rfl
theorem by170 : (Tryz.prog.info? 170).map (·.bytes) = some 8 := by kernel_rfl
attribute [simp] cs170 ag170 ze170 by170 Tryz.underlying170
theorem cs171 : csize Tryz.prog 171 = some 1 := by kernel_rfl
theorem ag171 : aggT Tryz.prog 171 = some false := by kernel_rfl
theorem ze171 : zeroAV Tryz.prog 171 = some (.nilf) := by kernel_rfl
theorem by171 : (Tryz.prog.info? 171).map (·.bytes) = some 8 := by kernel_rfl
attribute [simp] cs171 ag171 ze171 by171 Tryz.underlying171
theorem cs172 : csize Tryz.prog 172 = some 1 := by kernel_rfl
theorem ag172 : aggT Tryz.prog 172 = some false := by kernel_rfl
theorem ze172 : zeroAV Tryz.prog 172 = some (.nilf) := by kernel_rfl
theorem by172 : (Tryz.prog.info? 172).map (·.bytes) = some 8 := by kernel_rfl
attribute [simp] cs172 ag172 ze172 by172 Tryz.underlying172
theorem cs173 : csize Tryz.prog 173 = some 1 := by kernel_rfl
theorem ag173 : aggT Tryz.prog 173 = some false := by kernel_rfl
theorem ze173 : zeroAV Tryz.prog 173 = some (.nilf) := by kernel_rfl
theorem by173 : (Tryz.prog.info? 173).map (·.bytes) = some 8 := by kernel_rfl
attribute [simp] cs173 ag173 ze173 by173 Tryz.underlying173
theorem cs174 : csize Tryz.prog 174 = some 1 := by kernel_rfl
theorem ag174 : aggT Tryz.prog 174 = some false := by kernel_rfl
theorem ze174 : zeroAV Tryz.prog 174 = some (.nilf) := by kernel_rfl
theorem by174 : (Tryz.prog.info? 174).map (·.bytes) = some 8 := by kernel_rfl
attribute [simp] cs174 ag174 ze174 by174 Tryz.underlying174
theorem cs175 : csize Tryz.prog 175 = some 1 := by kernel_rfl
theorem ag175 : aggT Tryz.prog 175 = some false := by kernel_rfl
theorem ze175 : zeroAV Tryz.prog 175 = some (.nilm) := by kernel_rfl
theorem by175 : (Tryz.prog.info? 175).map (·.bytes) = some 8 := by kernel_rfl
attribute [simp] cs175 ag175 ze175 by175 Tryz.underlying175
theorem cs176 : csize Tryz.prog 176 = some 2 := by kernel_rfl
theorem ag176 : aggT Tryz.prog 176 = some true := by kernel_rfl
theorem ze176 : zeroAV Tryz.prog 176 = some (.agg [.int .i64 0, .nilm]) := by kernel_rfl
theorem by176 : (Tryz.prog.info? 176).map (·.bytes) = some 16 := by kernel_rfl
attribute [simp] cs176 ag176 ze176 by176 Tryz.underlying176
theorem cs177 : csize Tryz.prog 177 = some 2 := by kernel_rfl
theorem ag177 : aggT Tryz.prog 177 = some true := by kernel_rfl
theorem ze177 : zeroAV Tryz.prog 177 = some (.agg [.int .i64 0, .nilm]) := by kernel_rfl
theorem by177 : (Tryz.prog.info? 177).map (·.bytes) = some 16 := by kernel_rfl
attribute [simp] cs177 ag177 ze177 by177 Tryz.underlying177
theorem cs178 : csize Tryz.prog 178 = some 1 := by kernel_rfl
theorem ag178 : aggT Tryz.prog 178 = some false := by kernel_rfl
theorem ze178 : zeroAV Tryz.prog 178 = some (.nilf) := by kernel_rfl
theorem by178 : (Tryz.prog.info? 178).map (·.bytes) = some 8 := by kernel_rfl
attribute [simp] cs178 ag178 ze178 by178 Tryz.underlying178
theorem cs179 : csize Tryz.prog 179 = some 1 := by kernel_rfl
theorem ag179 : aggT Tryz.prog 179 = some false := by kernel_rfl
theorem ze179 : zeroAV Tryz.prog 179 = some (.nilf) := by kernel_rfl
theorem by179 : (Tryz.prog.info? 179).map (·.bytes) = some 8 := by kernel_rfl
attribute [simp] cs179 ag179 ze179 by179 Tryz.underlying179
theorem cs180 : csize Tryz.prog 180 = some 1 := by kernel_rfl
theorem ag180 : aggT Tryz.prog 180 = some false := by kernel_rfl
theorem ze180 : zeroAV Tryz.prog 180 = some (.nilm) := by kernel_rfl
theorem by180 : (Tryz.prog.info? 180).map (·.bytes) = some 8 := by kernel_rfl
attribute [simp] cs180 ag180 ze180 by180 Tryz.underlying180
theorem cs181 : csize Tryz.prog 181 = some 1 := by kernel_rfl
theorem ag181 : aggT Tryz.prog 181 = some false := by kernel_rfl
theorem ze181 : zeroAV Tryz.prog 181 = some (.nilm) := by kernel_rfl
theorem by181 : (Tryz.prog.info? 181).map (·.bytes) = some 8 := by kernel_rfl
attribute [simp] cs181 ag181 ze181 by181 Tryz.underlying181
theorem cs182 : csize Tryz.prog 182 = some 1 := by kernel_rfl
theorem ag182 : aggT Tryz.prog 182 = some false := by kernel_rfl
theorem ze182 : zeroAV Tryz.prog 182 = some (.nils) := by kernel_rfl
theorem by182 : (Tryz.prog.info? 182).map (·.bytes) = some 24 := by kernel_rfl
attribute [simp] cs182 ag182 ze182 by182 Tryz.underlying182
theorem cs183 : csize Tryz.prog 183 = some 4 := by kernel_rfl
theorem ag183 : aggT Tryz.prog 183 = some true := by kernel_rfl
theorem ze183 : zeroAV Tryz.prog 183 = some (.agg [.int .i64 0, .nilm, .nilm, .nils]) := by kernel_rfl
theorem by183 : (Tryz.prog.info? 183).map (·.bytes) = some 48 := by kernel_rfl
attribute [simp] cs183 ag183 ze183 by183 Tryz.underlying183
theorem cs184 : csize Tryz.prog 184 = some 4 := by kernel_rfl
theorem ag184 : aggT Tryz.prog 184 = some true := by kernel_rfl
theorem ze184 : zeroAV Tryz.prog 184 = some (.agg [.int .i64 0, .nilm, .nilm, .nils]) := by kernel_rfl
theorem by184 : (Tryz.prog.info? 184).map (·.bytes) = some 48 := by kernel_rfl
attribute [simp] cs184 ag184 ze184 by184 Tryz.underlying184
theorem cs185 : csize Tryz.prog 185 = some 1 := by kernel_rfl
theorem ag185 : aggT Tryz.prog 185 = some false := by kernel_rfl
theorem ze185 : zeroAV Tryz.prog 185 = some (.nilf) := by kernel_rfl
theorem by185 : (Tryz.prog.info? 185).map (·.bytes) = some 8 := by kernel_rfl
attribute [simp] cs185 ag185 ze185 by185 Tryz.underlying185
theorem cs186 : csize Tryz.prog 186 = some 1 := by kernel_rfl
theorem ag186 : aggT Tryz.prog 186 = some false := by kernel_rfl
theorem ze186 : zeroAV Tryz.prog 186 = some (.nilf) := by kernel_rfl
theorem by186 : (Tryz.prog.info? 186).map (·.bytes) = some 8 := by kernel_rfl
attribute [simp] cs186 ag186 ze186 by186 Tryz.underlying186
theorem cs187 : csize Tryz.prog 187 = some 1 := by kernel_rfl
theorem ag187 : aggT Tryz.prog 187 = some false := by kernel_rfl
theorem by187 : (Tryz.prog.info? 187).map (·.bytes) = some 0 := by kernel_rfl
attribute [simp] cs187 ag187 by187 Tryz.underlying187
theorem cs188 : csize Tryz.prog 188 = some 1 := by kernel_rfl
theorem ag188 : aggT Tryz.prog 188 = some false := by kernel_rfl
theorem ze188 : zeroAV Tryz.prog 188 = some (.nilf) := by kernel_rfl
theorem by188 : (Tryz.prog.info? 188).map (·.bytes) = some 8 := by kernel_rfl
attribute [simp] cs188 ag188 ze188 by188 Tryz.underlying188
theorem cs189 : csize Tryz.prog 189 = some 1 := by kernel_rfl
theorem ag189 : aggT Tryz.prog 189 = some false := by kernel_rfl
theorem ze189 : zeroAV Tryz.prog 189 = some (.nilf) := by kernel_rfl
theorem by189 : (Tryz.prog.info? 189).map (·.bytes) = some 8 := by kernel_rfl
attribute [simp] cs189 ag189 ze189 by189 Tryz.underlying189
theorem cs190 : csize Tryz.prog 190 = some 1 := by kernel_rfl
theorem ag190 : aggT Tryz.prog 190 = some false := by kernel_rfl
theorem ze190 : zeroAV Tryz.prog 190 = some (.nils) := by kernel_rfl
theorem by190 : (Tryz.prog.info? 190).map (·.bytes) = some 24 := by kernel_rfl
attribute [simp] cs190 ag190 ze190 by190 Tryz.underlying190
theorem cs191 : csize Tryz.prog 191 = some 1 := by kernel_rfl
theorem ag191 : aggT Tryz.prog 191 = some false := by kernel_rfl
theorem ze191 : zeroAV Tryz.prog 191 = some (.nilm) := by kernel_rfl
theorem by191 : (Tryz.prog.info? 191).map (·.bytes) = some 8 := by kernel_rfl
attribute [simp] cs191 ag191 ze191 by191 Tryz.underlying191
theorem cs192 : csize Tryz.prog 192 = some 1 := by kernel_rfl
theorem ag192 : aggT Tryz.prog 192 = some false := by kernel_rfl
theorem ze192 : zeroAV Tryz.prog 192 = some (.nilm) := by kernel_rfl
theorem by192 : (Tryz.prog.info? 192).map (·.bytes) = some 8 := by kernel_rfl
attribute [simp] cs192 ag192 ze192 by192 Tryz.underlying192
theorem cs193 : csize Tryz.prog 193 = some 4 := by kernel_rfl
theorem ag193 : aggT Tryz.prog 193 = some true := by kernel_rfl
theorem ze193 : zeroAV Tryz.prog 193 = some (.agg [.nilp, .nils, .nilm, .nilm]) := by kernel_rfl
theorem by193 : (Tryz.prog.info? 193).map (·.bytes) = some 48 := by kernel_rfl
attribute [simp] cs193 ag193 ze193 by193 Tryz.underlying193
theorem cs194 : csize Tryz.prog 194 = some 4 := by kernel_rfl
theorem ag194 : aggT Tryz.prog 194 = some true := by kernel_rfl
theorem ze194 : zeroAV Tryz.prog 194 = some (.agg [.nilp, .nils, .nilm, .nilm]) := by kernel_rfl
theorem by194 : (Tryz.prog.info? 194).map (·.bytes) = some 48 := by kernel_rfl
attribute [simp] cs194 ag194 ze194 by194 Tryz.underlying194
theorem cs195 : csize Tryz.prog 195 = some 1 := by kernel_rfl
theorem ag195 : aggT Tryz.prog 195 = some false := by kernel_rfl
theorem ze195 : zeroAV Tryz.prog 195 = some (.nilf) := by kernel_rfl
theorem by195 : (Tryz.prog.info? 195).map (·.bytes) = some 8 := by kernel_rfl
attribute [simp] cs195 ag195 ze195 by195 Tryz.underlying195
theorem cs196 : csize Tryz.prog 196 = some 1 := by kernel_rfl
theorem ag196 : aggT Tryz.prog 196 = some false := by kernel_rfl
theorem ze196 : zeroAV Tryz.prog 196 = some (.nilf) := by kernel_rfl
theorem by196 : (Tryz.prog.info? 196).map (·.bytes) = some 8 := by kernel_rfl
attribute [simp] cs196 ag196 ze196 by196 Tryz.underlying196
theorem cs197 : csize Tryz.prog 197 = some 1 := by kernel_rfl
theorem ag197 : aggT Tryz.prog 197 = some false := by kernel_rfl
theorem by197 : (Tryz.prog.info? 197).map (·.bytes) = some 0 := by kernel_rfl
attribute [simp] cs197 ag197 by197 Tryz.underlying197
theorem cs198 : csize Tryz.prog 198 = some 1 := by kernel_rfl
theorem ag198 : aggT Tryz.prog 198 = some false := by kernel_rfl
theorem ze198 : zeroAV Tryz.prog 198 = some (.nilf) := by kernel_rfl
theorem by198 : (Tryz.prog.info? 198).map (·.bytes) = some 8 := by kernel_rfl
attribute [simp] cs198 ag198 ze198 by198 Tryz.underlying198
theorem cs199 : csize Tryz.prog 199 = some 1 := by kernel_rfl
theorem ag199 : aggT Tryz.prog 199 = some false := by kernel_rfl
theorem ze199 : zeroAV Tryz.prog 199 = some (.nils) := by kernel_rfl
theorem by199 : (Tryz.prog.info? 199).map (·.bytes) = some 24 := by kernel_rfl
attribute [simp] cs199 ag199 ze199 by199 Tryz.underlying199
theorem cs200 : csize Tryz.prog 200 = some 2 := by kernel_rfl
theorem ag200 : aggT Tryz.prog 200 = some true := by kernel_rfl
theorem ze200 : zeroAV Tryz.prog 200 = some (.agg [.int .i64 0, .int .i64 0]) := by kernel_rfl
theorem by200 : (Tryz.prog.info? 200).map (·.bytes) = some 16 := by kernel_rfl
attribute [simp] cs200 ag200 ze200 by200 Tryz.underlying200
theorem cs201 : csize Tryz.prog 201 = some 2 := by kernel_rfl
theorem ag201 : aggT Tryz.prog 201 = some true := by kernel_rfl
theorem ze201 : zeroAV Tryz.prog 201 = some (.agg [.int .i64 0, .int .i64 0]) := by kernel_rfl
theorem by201 : (Tryz.prog.info? 201).map (·.bytes) = some 16 := by kernel_rfl
attribute [simp] cs201 ag201 ze201 by201 Tryz.underlying201
theorem cs202 : csize Tryz.prog 202 = some 1 := by kernel_rfl
theorem ag202 : aggT Tryz.prog 202 = some false := by kernel_rfl
theorem ze202 : zeroAV Tryz.prog 202 = some (.nilf) := by kernel_rfl
theorem by202 : (Tryz.prog.info? 202).map (·.bytes) = some 8 := by kernel_rfl
attribute [simp] cs202 ag202 ze202 by202 Tryz.underlying202
theorem cs203 : csize Tryz.prog 203 = some 2 := by kernel_rfl
theorem ag203 : aggT Tryz.prog 203 = some true := by kernel_rfl
theorem ze203 : zeroAV Tryz.prog 203 = some (.agg [.int .i64 0, .int .i64 0]) := by kernel_rfl
theorem by203 : (Tryz.prog.info? 203).map (·.bytes) = some 16 := by kernel_rfl
attribute [simp] cs203 ag203 ze203 by203 Tryz.underlying203
theorem cs204 : csize Tryz.prog 204 = some 2 := by kernel_rfl
theorem ag204 : aggT Tryz.prog 204 = some true := by kernel_rfl
theorem ze204 : zeroAV Tryz.prog 204 = some (.agg [.int .i64 0, .int .i64 0]) := by kernel_rfl
theorem by204 : (Tryz.prog.info? 204).map (·.bytes) = some 16 := by kernel_rfl
attribute [simp] cs204 ag204 ze204 by204 Tryz.underlying204
theorem cs205 : csize Tryz.prog 205 = some 1 := by kernel_rfl
theorem ag205 : aggT Tryz.prog 205 = some false := by kernel_rfl
theorem ze205 : zeroAV Tryz.prog 205 = some (.nilp) := by kernel_rfl
theorem by205 : (Tryz.prog.info? 205).map (·.bytes) = some 8 := by kernel_rfl
attribute [simp] cs205 ag205 ze205 by205 Tryz.underlying205
theorem cs206 : csize Tryz.prog 206 = some 5 := by kernel_rfl
theorem ag206 : aggT Tryz.prog 206 = some true := by kernel_rfl
theorem ze206 : zeroAV Tryz.prog 206 = some (.agg [.int .i64 0, .int .i64 0, .int .i64 0, .str [], .nils]) := by kernel_rfl
theorem by206 : (Tryz.prog.info? 206).map (·.bytes) = some 64 := by kernel_rfl
attribute [simp] cs206 ag206 ze206 by206 Tryz.underlying206
theorem cs207 : csize Tryz.prog 207 = some 5 := by kernel_rfl
theorem ag207 : aggT Tryz.prog 207 = some true := by kernel_rfl
theorem ze207 : zeroAV Tryz.prog 207 = some (.agg [.int .i64 0, .int .i64 0, .int .i64 0, .str [], .nils]) := by kernel_rfl
theorem by207 : (Tryz.prog.info? 207).map (·.bytes) = some 64 := by kernel_rfl
attribute [simp] cs207 ag207 ze207 by207 Tryz.underlying207
theorem cs208 : csize Tryz.prog 208 = some 1 := by kernel_rfl
theorem ag208 : aggT Tryz.prog 208 = some false := by kernel_rfl
theorem ze208 : zeroAV Tryz.prog 208 = some (.nils) := by kernel_rfl
theorem by208 : (Tryz.prog.info? 208).map (·.bytes) = some 24 := by kernel_rfl
attribute [simp] cs208 ag208 ze208 by208 Tryz.underlying208
theorem cs209 : csize Tryz.prog 209 = some 6 := by kernel_rfl
theorem ag209 : aggT Tryz.prog 209 = some true := by kernel_rfl
theorem ze209 : zeroAV Tryz.prog 209 = some (.agg [.nils, .int .i64 0, .int .i64 0, .bool false, .nilp, .nils]) := by kernel_rfl
theorem by209 : (Tryz.prog.info? 209).map (·.bytes) = some 80 := by kernel_rfl
attribute [simp] cs209 ag209 ze209 by209 Tryz.underlying209
theorem cs210 : csize Tryz.prog 210 = some 6 := by kernel_rfl
theorem ag210 : aggT Tryz.prog 210 = some true := by kernel_rfl
theorem ze210 : zeroAV Tryz.prog 210 = some (.agg [.nils, .int .i64 0, .int .i64 0, .bool false, .nilp, .nils]) := by kernel_rfl
theorem by210 : (Tryz.prog.info? 210).map (·.bytes) = some 80 := by kernel_rfl
attribute [simp] cs210 ag210 ze210 by210 Tryz.underlying210
theorem cs211 : csize Tryz.prog 211 = some 2 := by kernel_rfl
theorem ag211 : aggT Tryz.prog 211 = some true := by kernel_rfl
theorem ze211 : zeroAV Tryz.prog 211 = some (.agg [.int .i64 0, .int .i64 0]) := by kernel_rfl
theorem by211 : (Tryz.prog.info? 211).map (·.bytes) = some 16 := by kernel_rfl
attribute [simp] cs211 ag211 ze211 by211 Tryz.underlying211
theorem cs212 : csize Tryz.prog 212 = some 2 := by kernel_rfl
theorem ag212 : aggT Tryz.prog 212 = some true := by kernel_rfl
theorem ze212 : zeroAV Tryz.prog 212 = some (.agg [.int .i64 0, .int .i64 0]) := by kernel_rfl
theorem by212 : (Tryz.prog.info? 212).map (·.bytes) = some 16 := by kernel_rfl
attribute [simp] cs212 ag212 ze212 by212 Tryz.underlying212
theorem cs213 : csize Tryz.prog 213 = some 51 := by kernel_rfl
theorem ag213 : aggT Tryz.prog 213 = some true := by kernel_rfl
theorem ze213 : zeroAV Tryz.prog 213 = some (.agg [.int .i64 0, .int .i64 0, .int .i64 0, .int .i64 0, .int .i64 0, .int .i64 0, .int .i64 0, .int .i64 0, .int .i64 0, .int .i64 0, .int .i64 0, .int .i64 0, .int .i64 0, .int .i64 0, .int .i64 0, .int .i64 0, .int .i64 0, .int .i64 0, .int .i64 0, .int .i64 0, .int .i64 0, .int .i64 0, .int .i64 0, .int .i64 0, .int .i64 0, .int .i64 0, .int .i64 0, .int .i64 0, .int .i64 0, .int .i64 0, .int .i64 0, .int .i64 0, .int .i64 0, .int .i64 0, .int .i64 0, .int .i64 0, .int .i64 0, .int .i64 0, .int .i64 0, .int .i64 0, .int .i64 0, .int .i64 0, .int .i64 0, .int .i64 0, .int .i64 0, .int .i64 0, .int .i64 0, .int .i64 0, .int .i64 0, .int .i64 0, .int .i64 0]) := by kernel_rfl
theorem by213 : (Tryz.prog.info? 213).map (·.bytes) = some 408 := by kernel_rfl
attribute [simp] cs213 ag213 ze213 by213 Tryz.underlying213
theorem cs214 : csize Tryz.prog 214 = some 56 := by kernel_rfl
theorem ag214 : aggT Tryz.prog 214 = some true := by kernel_rfl
theorem ze214 : zeroAV Tryz.prog 214 = some (.agg [.nilp, .nilp, .nils, .nils, .int .i64 0, .int .i64 0, .int .i64 0, .int .i64 0, .int .i64 0, .int .i64 0, .int .i64 0, .int .i64 0, .int .i64 0, .int .i64 0, .int .i64 0, .int .i64 0, .int .i64 0, .int .i64 0, .int .i64 0, .int .i64 0, .int .i64 0, .int .i64 0, .int .i64 0, .int .i64 0, .int .i64 0, .int .i64 0, .int .i64 0, .int .i64 0, .int .i64 0, .int .i64 0, .int .i64 0, .int .i64 0, .int .i64 0, .int .i64 0, .int .i64 0, .int .i64 0, .int .i64 0, .int .i64 0, .int .i64 0, .int .i64 0, .int .i64 0, .int .i64 0, .int .i64 0, .int .i64 0, .int .i64 0, .int .i64 0, .int .i64 0, .int .i64 0, .int .i64 0, .int .i64 0, .int .i64 0, .int .i64 0, .int .i64 0, .int .i64 0, .int .i64 0, .str []]) := by kernel_rfl
theorem by214 : (Tryz.prog.info? 214).map (·.bytes) = some 488 := by kernel_rfl
attribute [simp] cs214 ag214 ze214 by214 Tryz.underlying214
theorem cs215 : csize Tryz.prog 215 = some 56 := by kernel_rfl
theorem ag215 : aggT Tryz.prog 215 = some true := by kernel_rfl
theorem ze215 : zeroAV Tryz.prog 215 = some (.agg [.nilp, .nilp, .nils, .nils, .int .i64 0, .int .i64 0, .int .i64 0, .int .i64 0, .int .i64 0, .int .i64 0, .int .i64 0, .int .i64 0, .int .i64 0, .int .i64 0, .int .i64 0, .int .i64 0, .int .i64 0, .int .i64 0, .int .i64 0, .int .i64 0, .int .i64 0, .int .i64 0, .int .i64 0, .int .i64 0, .int .i64 0, .int .i64 0, .int .i64 0, .int .i64 0, .int .i64 0, .int .i64 0, .int .i64 0, .int .i64 0, .int .i64 0, .int .i64 0, .int .i64 0, .int .i64 0, .int .i64 0, .int .i64 0, .int .i64 0, .int .i64 0, .int .i64 0, .int .i64 0, .int .i64 0, .int .i64 0, .int .i64 0, .int .i64 0, .int .i64 0, .int .i64 0, .int .i64 0, .int .i64 0, .int .i64 0, .int .i64 0, .int .i64 0, .int .i64 0, .int .i64 0, .str []]) := by kernel_rfl
theorem by215 : (Tryz.prog.info? 215).map (·.bytes) = some 488 := by kernel_rfl
attribute [simp] cs215 ag215 ze215 by215 Tryz.underlying215
theorem cs216 : csize Tryz.prog 216 = some 1 := by kernel_rfl
theorem ag216 : aggT Tryz.prog 216 = some false := by kernel_rfl
theorem ze216 : zeroAV Tryz.prog 216 = some (.int .u64 0) := by kernel_rfl
theorem by216 : (Tryz.prog.info? 216).map (·.bytes) = some 8 := by kernel_rfl
attribute [simp] cs216 ag216 ze216 by216 Tryz.underlying216
theorem cs217 : csize Tryz.prog 217 = some 1 := by kernel_rfl
theorem ag217 : aggT Tryz.prog 217 = some false := by kernel_rfl
theorem ze217 : zeroAV Tryz.prog 217 = some (.nilf) := by kernel_rfl
theorem by217 : (Tryz.prog.info? 217).map (·.bytes) = some 8 := by kernel_rfl
attribute [simp] cs217 ag217 ze217 by217 Tryz.underlying217
theorem cs218 : csize Tryz.prog 218 = some 1 := by kernel_rfl
theorem ag218 : aggT Tryz.prog 218 = some false := by kernel_rfl
theorem ze218 : zeroAV Tryz.prog 218 = some (.nilp) := by kernel_rfl
theorem by218 : (Tryz.prog.info? 218).map (·.bytes) = some 8 := by kernel_rfl
attribute [simp] cs218 ag218 ze218 by218 Tryz.underlying218
theorem cs219 : csize Tryz.prog 219 = some 2 := by kernel_rfl
theorem ag219 : aggT Tryz.prog 219 = some true := by kernel_rfl
theorem ze219 : zeroAV Tryz.prog 219 = some (.agg [.nilp, .nils]) := by kernel_rfl
theorem by219 : (Tryz.prog.info? 219).map (·.bytes) = some 32 := by kernel_rfl
attribute [simp] cs219 ag219 ze219 by219 Tryz.underlying219
theorem cs220 : csize Tryz.prog 220 = some 2 := by kernel_rfl
theorem ag220 : aggT Tryz.prog 220 = some true := by kernel_rfl
theorem ze220 : zeroAV Tryz.prog 220 = some (.agg [.nilp, .nils]) := by kernel_rfl
theorem by220 : (Tryz.prog.info? 220).map (·.bytes) = some 32 := by kernel_rfl
attribute [simp] cs220 ag220 ze220 by220 Tryz.underlying220
theorem cs221 : csize Tryz.prog 221 = some 1 := by kernel_rfl
theorem ag221 : aggT Tryz.prog 221 = some false := by kernel_rfl
theorem ze221 : zeroAV Tryz.prog 221 = some (.nili) := by kernel_rfl
theorem by221 : (Tryz.prog.info? 221).map (·.bytes) = some 16 := by kernel_rfl
attribute [simp] cs221 ag221 ze221 by221 Tryz.underlying221
theorem cs222 : csize Tryz.prog 222 = some 1 := by kernel_rfl
theorem ag222 : aggT Tryz.prog 222 = some false := by kernel_rfl
theorem ze222 : zeroAV Tryz.prog 222 = some (.nili) := by kernel_rfl
theorem by222 : (Tryz.prog.info? 222).map (·.bytes) = some 16 := by kernel_rfl
attribute [simp] cs222 ag222 ze222 by222 Tryz.underlying222
theorem cs223 : csize Tryz.prog 223 = some 1 := by kernel_rfl
theorem ag223 : aggT Tryz.prog 223 = some false := by kernel_rfl
theorem by223 : (Tryz.prog.info? 223).map (·.bytes) = some 0 := by kernel_rfl
attribute [simp] cs223 ag223 by223 Tryz.underlying223
theorem cs224 : csize Tryz.prog 224 = some 1 := by kernel_rfl
theorem ag224 : aggT Tryz.prog 224 = some false := by kernel_rfl
theorem ze224 : zeroAV Tryz.prog 224 = some (.nilf) := by kernel_rfl
theorem by224 : (Tryz.prog.info? 224).map (·.bytes) = some 8 := by kernel_rfl
attribute [simp] cs224 ag224 ze224 by224 Tryz.underlying224
theorem cs225 : csize Tryz.prog 225 = some 1 := by kernel_rfl
theorem ag225 : aggT Tryz.prog 225 = some false := by kernel_rfl
theorem ze225 : zeroAV Tryz.prog 225 = some (.nilf) := by kernel_rfl
theorem by225 : (Tryz.prog.info? 225).map (·.bytes) = some 8 := by kernel_rfl
attribute [simp] cs225 ag225 ze225 by225 Tryz.underlying225
theorem cs226 : csize Tryz.prog 226 = some 2 := by kernel_rfl
theorem ag226 : aggT Tryz.prog 226 = some true := by kernel_rfl
theorem ze226 : zeroAV Tryz.prog 226 = some (.agg [.int .i64 0, .int .i64 0]) := by kernel_rfl
theorem by226 : (Tryz.prog.info? 226).map (·.bytes) = some 16 := by kernel_rfl
attribute [simp] cs226 ag226 ze226 by226 Tryz.underlying226
theorem cs227 : csize Tryz.prog 227 = some 2 := by kernel_rfl
theorem ag227 : aggT Tryz.prog 227 = some true := by kernel_rfl
theorem ze227 : zeroAV Tryz.prog 227 = some (.agg [.int .i64 0, .int .i64 0]) := by kernel_rfl
theorem by227 : (Tryz.prog.info? 227).map (·.bytes) = some 16 := by kernel_rfl
attribute [simp] cs227 ag227 ze227 by227 Tryz.underlying227
theorem cs228 : csize Tryz.prog 228 = some 1 := by kernel_rfl
theorem ag228 : aggT Tryz.prog 228 = some false := by kernel_rfl
theorem by228 : (Tryz.prog.info? 228).map (·.bytes) = some 0 := by kernel_rfl
attribute [simp] cs228 ag228 by228 Tryz.underlying228
theorem cs229 : csize Tryz.prog 229 = some 1 := by kernel_rfl
theorem ag229 : aggT Tryz.prog 229 = some false := by kernel_rfl
theorem ze229 : zeroAV Tryz.prog 229 = some (.nilf) := by kernel_rfl
theorem by229 : (Tryz.prog.info? 229).map (·.bytes) = some 8 := by kernel_rfl
attribute [simp] cs229 ag229 ze229 by229 Tryz.underlying229
theorem cs230 : csize Tryz.prog 230 = some 1 := by kernel_rfl
theorem ag230 : aggT Tryz.prog 230 = some false := by kernel_rfl
theorem ze230 : zeroAV Tryz.prog 230 = some (.nilf) := by kernel_rfl
theorem by230 : (Tryz.prog.info? 230).map (·.bytes) = some 8 := by kernel_rfl
attribute [simp] cs230 ag230 ze230 by230 Tryz.underlying230
theorem cs231 : csize Tryz.prog 231 = some 1 := by kernel_rfl
theorem ag231 : aggT Tryz.prog 231 = some false := by kernel_rfl
theorem ze231 : zeroAV Tryz.prog 231 = some (.nilf) := by kernel_rfl
theorem by231 : (Tryz.prog.info? 231).map (·.bytes) = some 8 := by kernel_rfl
attribute [simp] cs231 ag231 ze231 by231 Tryz.underlying231
theorem cs232 : csize Tryz.prog 232 = some 1 := by kernel_rfl
theorem ag232 : aggT Tryz.prog 232 = some false := by kernel_rfl
theorem ze232 : zeroAV Tryz.prog 232 = some (.nilp) := by kernel_rfl
theorem by232 : (Tryz.prog.info? 232).map (·.bytes) = some 8 := by kernel_rfl
attribute [simp] cs232 ag232 ze232 by232 Tryz.underlying232
theorem cs233 : csize Tryz.prog 233 = some 1 := by kernel_rfl
theorem ag233 : aggT Tryz.prog 233 = some false := by kernel_rfl
theorem by233 : (Tryz.prog.info? 233).map (·.bytes) = some 0 := by kernel_rfl
attribute [simp] cs233 ag233 by233 Tryz.underlying233
theorem cs234 : csize Tryz.prog 234 = some 1 := by kernel_rfl
theorem ag234 : aggT Tryz.prog 234 = some false := by kernel_rfl
theorem ze234 : zeroAV Tryz.prog 234 = some (.nilf) := by kernel_rfl
theorem by234 : (Tryz.prog.info? 234).map (·.bytes) = some 8 := by kernel_rfl
attribute [simp] cs234 ag234 ze234 by234 Tryz.underlying234
theorem cs235 : csize Tryz.prog 235 = some 1 := by kernel_rfl
theorem ag235 : aggT Tryz.prog 235 = some false := by kernel_rfl
theorem ze235 : zeroAV Tryz.prog 235 = some (.nilp) := by kernel_rfl
theorem by235 : (Tryz.prog.info? 235).map (·.bytes) = some 8 := by kernel_rfl
attribute [simp] cs235 ag235 ze235 by235 Tryz.underlying235
theorem cs236 : csize Tryz.prog 236 = some 1 := by kernel_rfl
theorem ag236 : aggT Tryz.prog 236 = some false := by kernel_rfl
theorem by236 : (Tryz.prog.info? 236).map (·.bytes) = some 0 := by kernel_rfl
attribute [simp] cs236 ag236 by236 Tryz.underlying236
theorem cs237 : csize Tryz.prog 237 = some 1 := by kernel_rfl
theorem ag237 : aggT Tryz.prog 237 = some false := by kernel_rfl
theorem ze237 : zeroAV Tryz.prog 237 = some (.nilf) := by kernel_rfl
theorem by237 : (Tryz.prog.info? 237).map (·.bytes) = some 8 := by kernel_rfl
attribute [simp] cs237 ag237 ze237 by237 Tryz.underlying237
theorem cs238 : csize Tryz.prog 238 = some 1 := by kernel_rfl
theorem ag238 : aggT Tryz.prog 238 = some false := by kernel_rfl
theorem ze238 : zeroAV Tryz.prog 238 = some (.nils) := by kernel_rfl
theorem by238 : (Tryz.prog.info? 238).map (·.bytes) = some 24 := by kernel_rfl
attribute [simp] cs238 ag238 ze238 by238 Tryz.underlying238
theorem cs239 : csize Tryz.prog 239 = some 4 := by kernel_rfl
theorem ag239 : aggT Tryz.prog 239 = some true := by kernel_rfl
theorem ze239 : zeroAV Tryz.prog 239 = some (.agg [.nilp, .nilp, .nils, .nils]) := by kernel_rfl
theorem by239 : (Tryz.prog.info? 239).map (·.bytes) = some 64 := by kernel_rfl
attribute [simp] cs239 ag239 ze239 by239 Tryz.underlying239
theorem cs240 : csize Tryz.prog 240 = some 4 := by kernel_rfl
theorem ag240 : aggT Tryz.prog 240 = some true := by kernel_rfl
theorem ze240 : zeroAV Tryz.prog 240 = some (.agg [.nilp, .nilp, .nils, .nils]) := by kernel_rfl
theorem by240 : (Tryz.prog.info? 240).map (·.bytes) = some 64 := by kernel_rfl
attribute [simp] cs240 ag240 ze240 by240 Tryz.underlying240
theorem cs241 : csize Tryz.prog 241 = some 34 := by kernel_rfl
theorem ag241 : aggT Tryz.prog 241 = some true := by kernel_rfl
theorem ze241 : zeroAV Tryz.prog 241 = some (.agg [.int .i64 0, .int .i64 0, .int .i64 0, .int .i64 0, .int .i64 0, .int .i64 0, .int .i64 0, .int .i64 0, .int .i64 0, .int .i64 0, .int .i64 0, .int .i64 0, .int .i64 0, .int .i64 0, .int .i64 0, .int .i64 0, .int .i64 0, .int .i64 0, .int .i64 0, .int .i64 0, .int .i64 0, .int .i64 0, .int .i64 0, .int .i64 0, .int .i64 0, .int .i64 0, .int .i64 0, .int .i64 0, .int .i64 0, .int .i64 0, .int .i64 0, .int .i64 0, .int .i64 0, .int .i64 0]) := by kernel_rfl
theorem by241 : (Tryz.prog.info? 241).map (·.bytes) = some 272 := by kernel_rfl
attribute [simp] cs241 ag241 ze241 by241 Tryz.underlying241
theorem cs242 : csize Tryz.prog 242 = some 39 := by kernel_rfl
theorem ag242 : aggT Tryz.prog 242 = some true := by kernel_rfl
theorem ze242 : zeroAV Tryz.prog 242 = some (.agg [.nilp, .nilp, .nils, .nils, .int .i64 0, .int .i64 0, .int .i64 0, .int .i64 0, .int .i64 0, .int .i64 0, .int .i64 0, .int .i64 0, .int .i64 0, .int .i64 0, .int .i64 0, .int .i64 0, .int .i64 0, .int .i64 0, .int .i64 0, .int .i64 0, .int .i64 0, .int .i64 0, .int .i64 0, .int .i64 0, .int .i64 0, .int .i64 0, .int .i64 0, .int .i64 0, .int .i64 0, .int .i64 0, .int .i64 0, .int .i64 0, .int .i64 0, .int .i64 0, .int .i64 0, .int .i64 0, .int .i64 0, .int .i64 0, .str []]) := by kernel_rfl
theorem by242 : (Tryz.prog.info? 242).map (·.bytes) = some 352 := by kernel_rfl
attribute [simp] cs242 ag242 ze242 by242 Tryz.underlying242
theorem cs243 : csize Tryz.prog 243 = some 39 := by kernel_rfl
theorem ag243 : aggT Tryz.prog 243 = some true := by kernel_rfl
theorem ze243 : zeroAV Tryz.prog 243 = some (.agg [.nilp, .nilp, .nils, .nils, .int .i64 0, .int .i64 0, .int .i64 0, .int .i64 0, .int .i64 0, .int .i64 0, .int .i64 0, .int .i64 0, .int .i64 0, .int .i64 0, .int .i64 0, .int .i64 0, .int .i64 0, .int .i64 0, .int .i64 0, .int .i64 0, .int .i64 0, .int .i64 0, .int .i64 0, .int .i64 0, .int .i64 0, .int .i64 0, .int .i64 0, .int .i64 0, .int .i64 0, .int .i64 0, .int .i64 0, .int .i64 0, .int .i64 0, .int .i64 0, .int .i64 0, .int .i64 0, .int .i64 0, .int .i64 0, .str []]) := by kernel_rfl
theorem by243 : (Tryz.prog.info? 243).map (·.bytes) = some 352 := by kernel_rfl
attribute [simp] cs243 ag243 ze243 by243 Tryz.underlying243
theorem cs244 : csize Tryz.prog 244 = some 3 := by kernel_rfl
theorem ag244 : aggT Tryz.prog 244 = some true := by kernel_rfl
theorem ze244 : zeroAV Tryz.prog 244 = some (.agg [.int .i64 0, .int .i64 0, .int .i64 0]) := by kernel_rfl
theorem by244 : (Tryz.prog.info? 244).map (·.bytes) = some 24 := by kernel_rfl
attribute [simp] cs244 ag244 ze244 by244 Tryz.underlying244
theorem cs245 : csize Tryz.prog 245 = some 26 := by kernel_rfl
theorem ag245 : aggT Tryz.prog 245 = some true := by kernel_rfl
theorem ze245 : zeroAV Tryz.prog 245 = some (.agg [.int .i64 0, .int .i64 0, .int .i64 0, .bool false, .int .i64 0, .int .i64 0, .nils, .nils, .nils, .bool false, .int .u64 0, .int .u64 0, .int .i64 0, .int .i64 0, .int .i64 0, .int .i64 0, .nils, .int .i64 0, .int .i64 0, .int .i64 0, .int .i64 0, .int .i64 0, .int .i64 0, .bool false, .nils, .str []]) := by kernel_rfl
theorem by245 : (Tryz.prog.info? 245).map (·.bytes) = some 296 := by kernel_rfl
attribute [simp] cs245 ag245 ze245 by245 Tryz.underlying245
theorem cs246 : csize Tryz.prog 246 = some 26 := by kernel_rfl
theorem ag246 : aggT Tryz.prog 246 = some true := by kernel_rfl
theorem ze246 : zeroAV Tryz.prog 246 = some (.agg [.int .i64 0, .int .i64 0, .int .i64 0, .bool false, .int .i64 0, .int .i64 0, .nils, .nils, .nils, .bool false, .int .u64 0, .int .u64 0, .int .i64 0, .int .i64 0, .int .i64 0, .int .i64 0, .nils, .int .i64 0, .int .i64 0, .int .i64 0, .int .i64 0, .int .i64 0, .int .i64 0, .bool false, .nils, .str []]) := by kernel_rfl
theorem by246 : (Tryz.prog.info? 246).map (·.bytes) = some 296 := by kernel_rfl
attribute [simp] cs246 ag246 ze246 by246 Tryz.underlying246
theorem cs247 : csize Tryz.prog 247 = some 1 := by kernel_rfl
theorem ag247 : aggT Tryz.prog 247 = some false := by kernel_rfl
theorem by247 : (Tryz.prog.info? 247).map (·.bytes) = some 0 := by kernel_rfl
attribute [simp] cs247 ag247 by247 Tryz.underlying247
theorem cs248 : csize Tryz.prog 248 = some 1 := by kernel_rfl
theorem ag248 : aggT Tryz.prog 248 = some false := by kernel_rfl
theorem ze248 : zeroAV Tryz.prog 248 = some (.nilf) := by kernel_rfl
theorem by248 : (Tryz.prog.info? 248).map (·.bytes) = some 8 := by kernel_rfl
attribute [simp] cs248 ag248 ze248 by248 Tryz.underlying248
theorem cs249 : csize Tryz.prog 249 = some 1 := by kernel_rfl
theorem ag249 : aggT Tryz.prog 249 = some false := by kernel_rfl
theorem ze249 : zeroAV Tryz.prog 249 = some (.nilf) := by kernel_rfl
theorem by249 : (Tryz.prog.info? 249).map (·.bytes) = some 8 := by kernel_rfl
attribute [simp] cs249 ag249 ze249 by249 Tryz.underlying249
theorem cs250 : csize Tryz.prog 250 = some 1 := by kernel_rfl
theorem ag250 : aggT Tryz.prog 250 = some false := by kernel_rfl
theorem ze250 : zeroAV Tryz.prog 250 = some (.nilf) := by kernel_rfl
theorem by250 : (Tryz.prog.info? 250).map (·.bytes) = some 8 := by kernel_rfl
attribute [simp] cs250 ag250 ze250 by250 Tryz.underlying250
theorem cs251 : csize Tryz.prog 251 = some 1 := by kernel_rfl
theorem ag251 : aggT Tryz.prog 251 = some false := by kernel_rfl
theorem ze251 : zeroAV Tryz.prog 251 = some (.nilf) := by kernel_rfl
theorem by251 : (Tryz.prog.info? 251).map (·.bytes) = some 8 := by kernel_rfl
attribute [simp] cs251 ag251 ze251 by251 Tryz.underlying251
theorem cs252 : csize Tryz.prog 252 = some 1 := by kernel_rfl
theorem ag252 : aggT Tryz.prog 252 = some false := by kernel_rfl
theorem ze252 : zeroAV Tryz.prog 252 = some (.nilf) := by kernel_rfl
theorem by252 : (Tryz.prog.info? 252).map (·.bytes) = some 8 := by kernel_rfl
attribute [simp] cs252 ag252 ze252 by252 Tryz.underlying252
theorem cs253 : csize Tryz.prog 253 = some 1 := by kernel_rfl
theorem ag253 : aggT Tryz.prog 253 = some false := by kernel_rfl
theorem by253 : (Tryz.prog.info? 253).map (·.bytes) = some 0 := by kernel_rfl
attribute [simp] cs253 ag253 by253 Tryz.underlying253
theorem cs254 : csize Tryz.prog 254 = some 1 := by kernel_rfl
theorem ag254 : aggT Tryz.prog 254 = some false := by kernel_rfl
theorem ze254 : zeroAV Tryz.prog 254 = some (.nilf) := by kernel_rfl
theorem by254 : (Tryz.prog.info? 254).map (·.bytes) = some 8 := by kernel_rfl
attribute [simp] cs254 ag254 ze254 by254 Tryz.underlying254
theorem cs255 : csize Tryz.prog 255 = some 1 := by kernel_rfl
theorem ag255 : aggT Tryz.prog 255 = some false := by kernel_rfl
theorem ze255 : zeroAV Tryz.prog 255 = some (.nilf) := by kernel_rfl
theorem by255 : (Tryz.prog.info? 255).map (·.bytes) = some 8 := by kernel_rfl
attribute [simp] cs255 ag255 ze255 by255 Tryz.underlying255
theorem cs256 : csize Tryz.prog 256 = some 13 := by kernel_rfl
theorem ag256 : aggT Tryz.prog 256 = some true := by kernel_rfl
theorem ze256 : zeroAV Tryz.prog 256 = some (.agg [.int .i64 0, .int .u64 0, .int .u64 0, .int .u64 0, .int .i64 0, .int .i64 0, .int .u32 0, .int .u32 0, .int .i64 0, .int .i64 0, .int .i64 0, .int .i64 0, .str []]) := by kernel_rfl
theorem by256 : (Tryz.prog.info? 256).map (·.bytes) = some 104 := by kernel_rfl
attribute [simp] cs256 ag256 ze256 by256 Tryz.underlying256
theorem cs257 : csize Tryz.prog 257 = some 1 := by kernel_rfl
theorem ag257 : aggT Tryz.prog 257 = some false := by kernel_rfl
theorem ze257 : zeroAV Tryz.prog 257 = some (.nilf) := by kernel_rfl
theorem by257 : (Tryz.prog.info? 257).map (·.bytes) = some 8 := by kernel_rfl
attribute [simp] cs257 ag257 ze257 by257 Tryz.underlying257
theorem cs258 : csize Tryz.prog 258 = some 1 := by kernel_rfl
theorem ag258 : aggT Tryz.prog 258 = some false := by kernel_rfl
theorem ze258 : zeroAV Tryz.prog 258 = some (.nilf) := by kernel_rfl
theorem by258 : (Tryz.prog.info? 258).map (·.bytes) = some 8 := by kernel_rfl
attribute [simp] cs258 ag258 ze258 by258 Tryz.underlying258
theorem cs259 : csize Tryz.prog 259 = some 1 := by kernel_rfl
theorem ag259 : aggT Tryz.prog 259 = some false := by kernel_rfl
theorem ze259 : zeroAV Tryz.prog 259 = some (.nilp) := by kernel_rfl
theorem by259 : (Tryz.prog.info? 259).map (·.bytes) = some 8 := by kernel_rfl
attribute [simp] cs259 ag259 ze259 by259 Tryz.underlying259
theorem cs260 : csize Tryz.prog 260 = some 2 := by kernel_rfl
theorem ag260 : aggT Tryz.prog 260 = some true := by kernel_rfl
theorem ze260 : zeroAV Tryz.prog 260 = some (.agg [.nils, .int .i64 0]) := by kernel_rfl
theorem by260 : (Tryz.prog.info? 260).map (·.bytes) = some 32 := by kernel_rfl
attribute [simp] cs260 ag260 ze260 by260 Tryz.underlying260
theorem cs261 : csize Tryz.prog 261 = some 2 := by kernel_rfl
theorem ag261 : aggT Tryz.prog 261 = some true := by kernel_rfl
theorem ze261 : zeroAV Tryz.prog 261 = some (.agg [.nils, .int .i64 0]) := by kernel_rfl
theorem by261 : (Tryz.prog.info? 261).map (·.bytes) = some 32 := by kernel_rfl
attribute [simp] cs261 ag261 ze261 by261 Tryz.underlying261
theorem cs262 : csize Tryz.prog 262 = some 1 := by kernel_rfl
theorem ag262 : aggT Tryz.prog 262 = some false := by kernel_rfl
theorem ze262 : zeroAV Tryz.prog 262 = some (.nilf) := by kernel_rfl
theorem by262 : (Tryz.prog.info? 262).map (·.bytes) = some 8 := by kernel_rfl
attribute [simp] cs262 ag262 ze262 by262 Tryz.underlying262
theorem cs263 : csize Tryz.prog 263 = some 1 := by kernel_rfl
theorem ag263 : aggT Tryz.prog 263 = some false := by kernel_rfl
theorem ze263 : zeroAV Tryz.prog 263 = some (.nilf) := by kernel_rfl
theorem by263 : (Tryz.prog.info? 263).map (·.bytes) = some 8 := by kernel_rfl
attribute [simp] cs263 ag263 ze263 by263 Tryz.underlying263
theorem cs264 : csize Tryz.prog 264 = some 2 := by kernel_rfl
theorem ag264 : aggT Tryz.prog 264 = some true := by kernel_rfl
theorem ze264 : zeroAV Tryz.prog 264 = some (.agg [.int .i64 0, .nils]) := by kernel_rfl
theorem by264 : (Tryz.prog.info? 264).map (·.bytes) = some 32 := by kernel_rfl
attribute [simp] cs264 ag264 ze264 by264 Tryz.underlying264
theorem cs265 : csize Tryz.prog 265 = some 2 := by kernel_rfl
theorem ag265 : aggT Tryz.prog 265 = some true := by kernel_rfl
theorem ze265 : zeroAV Tryz.prog 265 = some (.agg [.int .i64 0, .nils]) := by kernel_rfl
theorem by265 : (Tryz.prog.info? 265).map (·.bytes) = some 32 := by kernel_rfl
attribute [simp] cs265 ag265 ze265 by265 Tryz.underlying265
theorem cs266 : csize Tryz.prog 266 = some 1 := by kernel_rfl
theorem ag266 : aggT Tryz.prog 266 = some false := by kernel_rfl
theorem ze266 : zeroAV Tryz.prog 266 = some (.nils) := by kernel_rfl
theorem by266 : (Tryz.prog.info? 266).map (·.bytes) = some 24 := by kernel_rfl
attribute [simp] cs266 ag266 ze266 by266 Tryz.underlying266
theorem cs267 : csize Tryz.prog 267 = some 3 := by kernel_rfl
theorem ag267 : aggT Tryz.prog 267 = some true := by kernel_rfl
theorem ze267 : zeroAV Tryz.prog 267 = some (.agg [.nilp, .nils, .nils]) := by kernel_rfl
theorem by267 : (Tryz.prog.info? 267).map (·.bytes) = some 56 := by kernel_rfl
attribute [simp] cs267 ag267 ze267 by267 Tryz.underlying267
theorem cs268 : csize Tryz.prog 268 = some 3 := by kernel_rfl
theorem ag268 : aggT Tryz.prog 268 = some true := by kernel_rfl
theorem ze268 : zeroAV Tryz.prog 268 = some (.agg [.nilp, .nils, .nils]) := by kernel_rfl
theorem by268 : (Tryz.prog.info? 268).map (·.bytes) = some 56 := by kernel_rfl
attribute [simp] cs268 ag268 ze268 by268 Tryz.underlying268
theorem cs269 : csize Tryz.prog 269 = some 3 := by kernel_rfl
theorem ag269 : aggT Tryz.prog 269 = some true := by kernel_rfl
theorem ze269 : zeroAV Tryz.prog 269 = some (.agg [.int .i64 0, .str [], .nils]) := by kernel_rfl
theorem by269 : (Tryz.prog.info? 269).map (·.bytes) = some 48 := by kernel_rfl
attribute [simp] cs269 ag269 ze269 by269 Tryz.underlying269
theorem cs270 : csize Tryz.prog 270 = some 5 := by kernel_rfl
theorem ag270 : aggT Tryz.prog 270 = some true := by kernel_rfl
theorem ze270 : zeroAV Tryz.prog 270 = some (.agg [.int .i64 0, .int .i64 0, .int .i64 0, .str [], .nils]) := by kernel_rfl
theorem by270 : (Tryz.prog.info? 270).map (·.bytes) = some 64 := by kernel_rfl
attribute [simp] cs270 ag270 ze270 by270 Tryz.underlying270
theorem cs271 : csize Tryz.prog 271 = some 5 := by kernel_rfl
theorem ag271 : aggT Tryz.prog 271 = some true := by kernel_rfl
theorem ze271 : zeroAV Tryz.prog 271 = some (.agg [.int .i64 0, .int .i64 0, .int .i64 0, .str [], .nils]) := by kernel_rfl
theorem by271 : (Tryz.prog.info? 271).map (·.bytes) = some 64 := by kernel_rfl
attribute [simp] cs271 ag271 ze271 by271 Tryz.underlying271
theorem cs272 : csize Tryz.prog 272 = some 1 := by kernel_rfl
theorem ag272 : aggT Tryz.prog 272 = some false := by kernel_rfl
theorem ze272 : zeroAV Tryz.prog 272 = some (.nils) := by kernel_rfl
theorem by272 : (Tryz.prog.info? 272).map (·.bytes) = some 24 := by kernel_rfl
attribute [simp] cs272 ag272 ze272 by272 Tryz.underlying272
theorem cs273 : csize Tryz.prog 273 = some 2 := by kernel_rfl
theorem ag273 : aggT Tryz.prog 273 = some true := by kernel_rfl
theorem ze273 : zeroAV Tryz.prog 273 = some (.agg [.int .i64 0, .int .i64 0]) := by kernel_rfl
theorem by273 : (Tryz.prog.info? 273).map (·.bytes) = some 16 := by kernel_rfl
attribute [simp] cs273 ag273 ze273 by273 Tryz.underlying273
theorem cs274 : csize Tryz.prog 274 = some 1 := by kernel_rfl
theorem ag274 : aggT Tryz.prog 274 = some false := by kernel_rfl
theorem ze274 : zeroAV Tryz.prog 274 = some (.nilf) := by kernel_rfl
theorem by274 : (Tryz.prog.info? 274).map (·.bytes) = some 8 := by kernel_rfl
attribute [simp] cs274 ag274 ze274 by274 Tryz.underlying274
theorem cs275 : csize Tryz.prog 275 = some 1 := by kernel_rfl
theorem ag275 : aggT Tryz.prog 275 = some false := by kernel_rfl
theorem ze275 : zeroAV Tryz.prog 275 = some (.nilf) := by kernel_rfl
theorem by275 : (Tryz.prog.info? 275).map (·.bytes) = some 8 := by kernel_rfl
attribute [simp] cs275 ag275 ze275 by275 Tryz.underlying275
theorem cs276 : csize Tryz.prog 276 = some 1 := by kernel_rfl
theorem ag276 : aggT Tryz.prog 276 = some false := by kernel_rfl
theorem ze276 : zeroAV Tryz.prog 276 = some (.nilf) := by kernel_rfl
theorem by276 : (Tryz.prog.info? 276).map (·.bytes) = some 8 := by kernel_rfl
attribute [simp] cs276 ag276 ze276 by276 Tryz.underlying276
theorem cs277 : csize Tryz.prog 277 = some 1 := by kernel_rfl
theorem ag277 : aggT Tryz.prog 277 = some false := by kernel_rfl
theorem ze277 : zeroAV Tryz.prog 277 = some (.nilf) := by kernel_rfl
theorem by277 : (Tryz.prog.info? 277).map (·.bytes) = some 8 := by kernel_rfl
attribute [simp] cs277 ag277 ze277 by277 Tryz.underlying277
theorem cs278 : csize Tryz.prog 278 = some 1 := by kernel_rfl
theorem ag278 : aggT Tryz.prog 278 = some false := by kernel_rfl
theorem ze278 : zeroAV Tryz.prog 278 = some (.nilf) := by kernel_rfl
theorem by278 : (Tryz.prog.info? 278).map (·.bytes) = some 8 := by kernel_rfl
attribute [simp] cs278 ag278 ze278 by278 Tryz.underlying278
theorem cs279 : csize Tryz.prog 279 = some 1 := by kernel_rfl
theorem ag279 : aggT Tryz.prog 279 = some false := by kernel_rfl
theorem ze279 : zeroAV Tryz.prog 279 = some (.nilf) := by kernel_rfl
theorem by279 : (Tryz.prog.info? 279).map (·.bytes) = some 8 := by kernel_rfl
attribute [simp] cs279 ag279 ze279 by279 Tryz.underlying279
theorem cs280 : csize Tryz.prog 280 = some 3 := by kernel_rfl
theorem ag280 : aggT Tryz.prog 280 = some true := by kernel_rfl
theorem ze280 : zeroAV Tryz.prog 280 = some (.agg [.int .u64 0, .int .u64 0, .int .u64 0]) := by kernel_rfl
theorem by280 : (Tryz.prog.info? 280).map (·.bytes) = some 24 := by kernel_rfl
attribute [simp] cs280 ag280 ze280 by280 Tryz.underlying280
theorem cs281 : csize Tryz.prog 281 = some 3 := by kernel_rfl
theorem ag281 : aggT Tryz.prog 281 = some true := by kernel_rfl
theorem ze281 : zeroAV Tryz.prog 281 = some (.agg [.int .u64 0, .int .u64 0, .int .u64 0]) := by kernel_rfl
theorem by281 : (Tryz.prog.info? 281).map (·.bytes) = some 24 := by kernel_rfl
attribute [simp] cs281 ag281 ze281 by281 Tryz.underlying281
theorem cs282 : csize Tryz.prog 282 = some 1 := by kernel_rfl
theorem ag282 : aggT Tryz.prog 282 = some false := by kernel_rfl
theorem ze282 : zeroAV Tryz.prog 282 = some (.nilf) := by kernel_rfl
theorem by282 : (Tryz.prog.info? 282).map (·.bytes) = some 8 := by kernel_rfl
attribute [simp] cs282 ag282 ze282 by282 Tryz.underlying282
theorem cs283 : csize Tryz.prog 283 = some 1 := by kernel_rfl
theorem ag283 : aggT Tryz.prog 283 = some false := by kernel_rfl
theorem by283 : (Tryz.prog.info? 283).map (·.bytes) = some 0 := by kernel_rfl
attribute [simp] cs283 ag283 by283 Tryz.underlying283
theorem cs284 : csize Tryz.prog 284 = some 1 := by kernel_rfl
theorem ag284 : aggT Tryz.prog 284 = some false := by kernel_rfl
theorem ze284 : zeroAV Tryz.prog 284 = some (.nilf) := by kernel_rfl
theorem by284 : (Tryz.prog.info? 284).map (·.bytes) = some 8 := by kernel_rfl
attribute [simp] cs284 ag284 ze284 by284 Tryz.underlying284
theorem cs285 : csize Tryz.prog 285 = some 1 := by kernel_rfl
theorem ag285 : aggT Tryz.prog 285 = some false := by kernel_rfl
theorem ze285 : zeroAV Tryz.prog 285 = some (.nilf) := by kernel_rfl
theorem by285 : (Tryz.prog.info? 285).map (·.bytes) = some 8 := by kernel_rfl
attribute [simp] cs285 ag285 ze285 by285 Tryz.underlying285
theorem cs286 : csize Tryz.prog 286 = some 1 := by kernel_rfl
theorem ag286 : aggT Tryz.prog 286 = some false := by kernel_rfl
theorem ze286 : zeroAV Tryz.prog 286 = some (.nilf) := by kernel_rfl
theorem by286 : (Tryz.prog.info? 286).map (·.bytes) = some 8 := by kernel_rfl
attribute [simp] cs286 ag286 ze286 by286 Tryz.underlying286
theorem cs287 : csize Tryz.prog 287 = some 1 := by kernel_rfl
theorem ag287 : aggT Tryz.prog 287 = some false := by kernel_rfl
theorem ze287 : zeroAV Tryz.prog 287 = some (.nilf) := by kernel_rfl
theorem by287 : (Tryz.prog.info? 287).map (·.bytes) = some 8 := by kernel_rfl
attribute [simp] cs287 ag287 ze287 by287 Tryz.underlying287
theorem cs288 : csize Tryz.prog 288 = some 1 := by kernel_rfl
theorem ag288 : aggT Tryz.prog 288 = some false := by kernel_rfl
theorem ze288 : zeroAV Tryz.prog 288 = some (.nilf) := by kernel_rfl
theorem by288 : (Tryz.prog.info? 288).map (·.bytes) = some 8 := by kernel_rfl
attribute [simp] cs288 ag288 ze288 by288 Tryz.underlying288
theorem cs289 : csize Tryz.prog 289 = some 1 := by kernel_rfl
theorem ag289 : aggT Tryz.prog 289 = some false := by kernel_rfl
theorem ze289 : zeroAV Tryz.prog 289 = some (.nilf) := by kernel_rfl
theorem by289 : (Tryz.prog.info? 289).map (·.bytes) = some 8 := by kernel_rfl
attribute [simp] cs289 ag289 ze289 by289 Tryz.underlying289
theorem cs290 : csize Tryz.prog 290 = some 1 := by kernel_rfl
theorem ag290 : aggT Tryz.prog 290 = some false := by kernel_rfl
theorem ze290 : zeroAV Tryz.prog 290 = some (.nilf) := by kernel_rfl
theorem by290 : (Tryz.prog.info? 290).map (·.bytes) = some 8 := by kernel_rfl
attribute [simp] cs290 ag290 ze290 by290 Tryz.underlying290
theorem cs291 : csize Tryz.prog 291 = some 1 := by kernel_rfl
theorem ag291 : aggT Tryz.prog 291 = some false := by kernel_rfl
theorem ze291 : zeroAV Tryz.prog 291 = some (.nilf) := by kernel_rfl
theorem by291 : (Tryz.prog.info? 291).map (·.bytes) = some 8 := by kernel_rfl
attribute [simp] cs291 ag291 ze291 by291 Tryz.underlying291
theorem cs292 : csize Tryz.prog 292 = some 1 := by kernel_rfl
theorem ag292 : aggT Tryz.prog 292 = some false := by kernel_rfl
theorem ze292 : zeroAV Tryz.prog 292 = some (.nilf) := by kernel_rfl
theorem by292 : (Tryz.prog.info? 292).map (·.bytes) = some 8 := by kernel_rfl
attribute [simp] cs292 ag292 ze292 by292 Tryz.underlying292
theorem cs293 : csize Tryz.prog 293 = some 1 := by kernel_rfl
theorem ag293 : aggT Tryz.prog 293 = some false := by kernel_rfl
theorem ze293 : zeroAV Tryz.prog 293 = some (.nilf) := by kernel_rfl
theorem by293 : (Tryz.prog.info? 293).map (·.bytes) = some 8 := by kernel_rfl
attribute [simp] cs293 ag293 ze293 by293 Tryz.underlying293
theorem cs294 : csize Tryz.prog 294 = some 1 := by kernel_rfl
theorem ag294 : aggT Tryz.prog 294 = some false := by kernel_rfl
theorem ze294 : zeroAV Tryz.prog 294 = some (.nilf) := by kernel_rfl
theorem by294 : (Tryz.prog.info? 294).map (·.bytes) = some 8 := by kernel_rfl
attribute [simp] cs294 ag294 ze294 by294 Tryz.underlying294
theorem cs295 : csize Tryz.prog 295 = some 3 := by kernel_rfl
theorem ag295 : aggT Tryz.prog 295 = some true := by kernel_rfl
theorem ze295 : zeroAV Tryz.prog 295 = some (.agg [.int .i64 0, .int .u64 0, .int .u64 0]) := by kernel_rfl
theorem by295 : (Tryz.prog.info? 295).map (·.bytes) = some 24 := by kernel_rfl
attribute [simp] cs295 ag295 ze295 by295 Tryz.underlying295
theorem cs296 : csize Tryz.prog 296 = some 3 := by kernel_rfl
theorem ag296 : aggT Tryz.prog 296 = some true := by kernel_rfl
theorem ze296 : zeroAV Tryz.prog 296 = some (.agg [.int .i64 0, .int .u64 0, .int .u64 0]) := by kernel_rfl
theorem by296 : (Tryz.prog.info? 296).map (·.bytes) = some 24 := by kernel_rfl
attribute [simp] cs296 ag296 ze296 by296 Tryz.underlying296
theorem cs297 : csize Tryz.prog 297 = some 1 := by kernel_rfl
theorem ag297 : aggT Tryz.prog 297 = some false := by kernel_rfl
theorem ze297 : zeroAV Tryz.prog 297 = some (.nilf) := by kernel_rfl
theorem by297 : (Tryz.prog.info? 297).map (·.bytes) = some 8 := by kernel_rfl
attribute [simp] cs297 ag297 ze297 by297 Tryz.underlying297
theorem cs298 : csize Tryz.prog 298 = some 1 := by kernel_rfl
theorem ag298 : aggT Tryz.prog 298 = some false := by kernel_rfl
theorem ze298 : zeroAV Tryz.prog 298 = some (.nilf) := by kernel_rfl
theorem by298 : (Tryz.prog.info? 298).map (·.bytes) = some 8 := by kernel_rfl
attribute [simp] cs298 ag298 ze298 by298 Tryz.underlying298
theorem cs299 : csize Tryz.prog 299 = some 1 := by kernel_rfl
theorem ag299 : aggT Tryz.prog 299 = some false := by kernel_rfl
theorem ze299 : zeroAV Tryz.prog 299 = some (.nilf) := by kernel_rfl
theorem by299 : (Tryz.prog.info? 299).map (·.bytes) = some 8 := by kernel_rfl
attribute [simp] cs299 ag299 ze299 by299 Tryz.underlying299
theorem cs300 : csize Tryz.prog 300 = some 3 := by kernel_rfl
theorem ag300 : aggT Tryz.prog 300 = some true := by kernel_rfl
theorem ze300 : zeroAV Tryz.prog 300 = some (.agg [.int .i64 0, .int .i64 0, .int .i64 0]) := by kernel_rfl
theorem by300 : (Tryz.prog.info? 300).map (·.bytes) = some 24 := by kernel_rfl
attribute [simp] cs300 ag300 ze300 by300 Tryz.underlying300
theorem cs301 : csize Tryz.prog 301 = some 3 := by kernel_rfl
theorem ag301 : aggT Tryz.prog 301 = some true := by kernel_rfl
theorem ze301 : zeroAV Tryz.prog 301 = some (.agg [.int .i64 0, .int .i64 0, .int .i64 0]) := by kernel_rfl
theorem by301 : (Tryz.prog.info? 301).map (·.bytes) = some 24 := by kernel_rfl
attribute [simp] cs301 ag301 ze301 by301 Tryz.underlying301
theorem cs302 : csize Tryz.prog 302 = some 1 := by kernel_rfl
theorem ag302 : aggT Tryz.prog 302 = some false := by kernel_rfl
theorem by302 : (Tryz.prog.info? 302).map (·.bytes) = some 0 := by kernel_rfl
attribute [simp] cs302 ag302 by302 Tryz.underlying302
theorem cs303 : csize Tryz.prog 303 = some 1 := by kernel_rfl
theorem ag303 : aggT Tryz.prog 303 = some false := by kernel_rfl
theorem by303 : (Tryz.prog.info? 303).map (·.bytes) = some 0 := by kernel_rfl
attribute [simp] cs303 ag303 by303 Tryz.underlying303
theorem cs304 : csize Tryz.prog 304 = some 1 := by kernel_rfl
theorem ag304 : aggT Tryz.prog 304 = some false := by kernel_rfl
theorem ze304 : zeroAV Tryz.prog 304 = some (.nilf) := by kernel_rfl
theorem by304 : (Tryz.prog.info? 304).map (·.bytes) = some 8 := by kernel_rfl
attribute [simp] cs304 ag304 ze304 by304 Tryz.underlying304
theorem cs305 : csize Tryz.prog 305 = some 1 := by kernel_rfl
theorem ag305 : aggT Tryz.prog 305 = some false := by kernel_rfl
theorem ze305 : zeroAV Tryz.prog 305 = some (.nilf) := by kernel_rfl
theorem by305 : (Tryz.prog.info? 305).map (·.bytes) = some 8 := by kernel_rfl
attribute [simp] cs305 ag305 ze305 by305 Tryz.underlying305
theorem cs306 : csize Tryz.prog 306 = some 1 := by kernel_rfl
theorem ag306 : aggT Tryz.prog 306 = some false := by kernel_rfl
theorem ze306 : zeroAV Tryz.prog 306 = some (.nilf) := by kernel_rfl
theorem by306 : (Tryz.prog.info? 306).map (·.bytes) = some 8 := by kernel_rfl
attribute [simp] cs306 ag306 ze306 by306 Tryz.underlying306
theorem cs307 : csize Tryz.prog 307 = some 2 := by kernel_rfl
theorem ag307 : aggT Tryz.prog 307 = some true := by kernel_rfl
theorem ze307 : zeroAV Tryz.prog 307 = some (.agg [.int .i64 0, .int .i64 0]) := by kernel_rfl
theorem by307 : (Tryz.prog.info? 307).map (·.bytes) = some 16 := by kernel_rfl
attribute [simp] cs307 ag307 ze307 by307 Tryz.underlying307
theorem cs308 : csize Tryz.prog 308 = some 2 := by kernel_rfl
theorem ag308 : aggT Tryz.prog 308 = some true := by kernel_rfl
theorem ze308 : zeroAV Tryz.prog 308 = some (.agg [.int .i64 0, .int .i64 0]) := by kernel_rfl
theorem by308 : (Tryz.prog.info? 308).map (·.bytes) = some 16 := by kernel_rfl
attribute [simp] cs308 ag308 ze308 by308 Tryz.underlying308
theorem cs309 : csize Tryz.prog 309 = some 1 := by kernel_rfl
theorem ag309 : aggT Tryz.prog 309 = some false := by kernel_rfl
theorem ze309 : zeroAV Tryz.prog 309 = some (.nilf) := by kernel_rfl
theorem by309 : (Tryz.prog.info? 309).map (·.bytes) = some 8 := by kernel_rfl
attribute [simp] cs309 ag309 ze309 by309 Tryz.underlying309
theorem cs310 : csize Tryz.prog 310 = some 1 := by kernel_rfl
theorem ag310 : aggT Tryz.prog 310 = some false := by kernel_rfl
theorem ze310 : zeroAV Tryz.prog 310 = some (.nilf) := by kernel_rfl
theorem by310 : (Tryz.prog.info? 310).map (·.bytes) = some 8 := by kernel_rfl
attribute [simp] cs310 ag310 ze310 by310 Tryz.underlying310
theorem cs311 : csize Tryz.prog 311 = some 1 := by kernel_rfl
theorem ag311 : aggT Tryz.prog 311 = some false := by kernel_rfl
theorem ze311 : zeroAV Tryz.prog 311 = some (.nilp) := by kernel_rfl
theorem by311 : (Tryz.prog.info? 311).map (·.bytes) = some 8 := by kernel_rfl
attribute [simp] cs311 ag311 ze311 by311 Tryz.underlying311
theorem cs312 : csize Tryz.prog 312 = some 1 := by kernel_rfl
theorem ag312 : aggT Tryz.prog 312 = some true := by kernel_rfl
theorem ze312 : zeroAV Tryz.prog 312 = some (.agg [.str []]) := by kernel_rfl
theorem by312 : (Tryz.prog.info? 312).map (·.bytes) = some 16 := by kernel_rfl
attribute [simp] cs312 ag312 ze312 by312 Tryz.underlying312
theorem cs313 : csize Tryz.prog 313 = some 1 := by kernel_rfl
theorem ag313 : aggT Tryz.prog 313 = some true := by kernel_rfl
theorem ze313 : zeroAV Tryz.prog 313 = some (.agg [.str []]) := by kernel_rfl
theorem by313 : (Tryz.prog.info? 313).map (·.bytes) = some 16 := by kernel_rfl
attribute [simp] cs313 ag313 ze313 by313 Tryz.underlying313
theorem cs314 : csize Tryz.prog 314 = some 1 := by kernel_rfl
theorem ag314 : aggT Tryz.prog 314 = some false := by kernel_rfl
theorem ze314 : zeroAV Tryz.prog 314 = some (.nilf) := by kernel_rfl
theorem by314 : (Tryz.prog.info? 314).map (·.bytes) = some 8 := by kernel_rfl
attribute [simp] cs314 ag314 ze314 by314 Tryz.underlying314
theorem cs315 : csize Tryz.prog 315 = some 1 := by kernel_rfl
theorem ag315 : aggT Tryz.prog 315 = some false := by kernel_rfl
theorem by315 : (Tryz.prog.info? 315).map (·.bytes) = some 0 := by kernel_rfl
attribute [simp] cs315 ag315 by315 Tryz.underlying315
theorem cs316 : csize Tryz.prog 316 = some 1 := by kernel_rfl
theorem ag316 : aggT Tryz.prog 316 = some false := by kernel_rfl
theorem ze316 : zeroAV Tryz.prog 316 = some (.nilf) := by kernel_rfl
theorem by316 : (Tryz.prog.info? 316).map (·.bytes) = some 8 := by kernel_rfl
attribute [simp] cs316 ag316 ze316 by316 Tryz.underlying316
theorem cs317 : csize Tryz.prog 317 = some 1 := by kernel_rfl
theorem ag317 : aggT Tryz.prog 317 = some false := by kernel_rfl
theorem by317 : (Tryz.prog.info? 317).map (·.bytes) = some 0 := by kernel_rfl
attribute [simp] cs317 ag317 by317 Tryz.underlying317
theorem cs318 : csize Tryz.prog 318 = some 1 := by kernel_rfl
theorem ag318 : aggT Tryz.prog 318 = some false := by kernel_rfl
theorem ze318 : zeroAV Tryz.prog 318 = some (.nilf) := by kernel_rfl
theorem by318 : (Tryz.prog.info? 318).map (·.bytes) = some 8 := by kernel_rfl
attribute [simp] cs318 ag318 ze318 by318 Tryz.underlying318
theorem cs319 : csize Tryz.prog 319 = some 1 := by kernel_rfl
theorem ag319 : aggT Tryz.prog 319 = some false := by kernel_rfl
theorem ze319 : zeroAV Tryz.prog 319 = some (.nilf) := by kernel_rfl
theorem by319 : (Tryz.prog.info? 319).map (·.bytes) = some 8 := by kernel_rfl
attribute [simp] cs319 ag319 ze319 by319 Tryz.underlying319
theorem cs320 : csize Tryz.prog 320 = some 1 := by kernel_rfl
theorem ag320 : aggT Tryz.prog 320 = some false := by kernel_rfl
theorem ze320 : zeroAV Tryz.prog 320 = some (.nilp) := by kernel_rfl
theorem by320 : (Tryz.prog.info? 320).map (·.bytes) = some 8 := by kernel_rfl
attribute [simp] cs320 ag320 ze320 by320 Tryz.underlying320
theorem cs321 : csize Tryz.prog 321 = some 1 := by kernel_rfl
theorem ag321 : aggT Tryz.prog 321 = some false := by kernel_rfl
theorem by321 : (Tryz.prog.info? 321).map (·.bytes) = some 0 := by kernel_rfl
attribute [simp] cs321 ag321 by321 Tryz.underlying321
theorem cs322 : csize Tryz.prog 322 = some 1 := by kernel_rfl
theorem ag322 : aggT Tryz.prog 322 = some false := by kernel_rfl
theorem ze322 : zeroAV Tryz.prog 322 = some (.nilf) := by kernel_rfl
theorem by322 : (Tryz.prog.info? 322).map (·.bytes) = some 8 := by kernel_rfl
attribute [simp] cs322 ag322 ze322 by322 Tryz.underlying322
theorem cs323 : csize Tryz.prog 323 = some 1 := by kernel_rfl
theorem ag323 : aggT Tryz.prog 323 = some false := by kernel_rfl
theorem ze323 : zeroAV Tryz.prog 323 = some (.nilf) := by kernel_rfl
theorem by323 : (Tryz.prog.info? 323).map (·.bytes) = some 8 := by kernel_rfl
attribute [simp] cs323 ag323 ze323 by323 Tryz.underlying323
theorem cs324 : csize Tryz.prog 324 = some 2 := by kernel_rfl
theorem ag324 : aggT Tryz.prog 324 = some true := by kernel_rfl
theorem ze324 : zeroAV Tryz.prog 324 = some (.agg [.nils, .int .i64 0]) := by kernel_rfl
theorem by324 : (Tryz.prog.info? 324).map (·.bytes) = some 32 := by kernel_rfl
attribute [simp] cs324 ag324 ze324 by324 Tryz.underlying324
theorem cs325 : csize Tryz.prog 325 = some 2 := by kernel_rfl
theorem ag325 : aggT Tryz.prog 325 = some true := by kernel_rfl
theorem ze325 : zeroAV Tryz.prog 325 = some (.agg [.nils, .int .i64 0]) := by kernel_rfl
theorem by325 : (Tryz.prog.info? 325).map (·.bytes) = some 32 := by kernel_rfl
attribute [simp] cs325 ag325 ze325 by325 Tryz.underlying325
theorem cs326 : csize Tryz.prog 326 = some 1 := by kernel_rfl
theorem ag326 : aggT Tryz.prog 326 = some false := by kernel_rfl
theorem ze326 : zeroAV Tryz.prog 326 = some (.nilf) := by kernel_rfl
theorem by326 : (Tryz.prog.info? 326).map (·.bytes) = some 8 := by kernel_rfl
attribute [simp] cs326 ag326 ze326 by326 Tryz.underlying326
theorem cs327 : csize Tryz.prog 327 = some 1 := by kernel_rfl
theorem ag327 : aggT Tryz.prog 327 = some false := by kernel_rfl
theorem ze327 : zeroAV Tryz.prog 327 = some (.nilf) := by kernel_rfl
theorem by327 : (Tryz.prog.info? 327).map (·.bytes) = some 8 := by kernel_rfl
attribute [simp] cs327 ag327 ze327 by327 Tryz.underlying327
theorem cs328 : csize Tryz.prog 328 = some 1 := by kernel_rfl
theorem ag328 : aggT Tryz.prog 328 = some false := by kernel_rfl
theorem ze328 : zeroAV Tryz.prog 328 = some (.nilf) := by kernel_rfl
theorem by328 : (Tryz.prog.info? 328).map (·.bytes) = some 8 := by kernel_rfl
attribute [simp] cs328 ag328 ze328 by328 Tryz.underlying328
theorem cs329 : csize Tryz.prog 329 = some 1 := by kernel_rfl
theorem ag329 : aggT Tryz.prog 329 = some false := by kernel_rfl
theorem by329 : (Tryz.prog.info? 329).map (·.bytes) = some 0 := by kernel_rfl
attribute [simp] cs329 ag329 by329 Tryz.underlying329
theorem cs330 : csize Tryz.prog 330 = some 1 := by kernel_rfl
theorem ag330 : aggT Tryz.prog 330 = some false := by kernel_rfl
theorem ze330 : zeroAV Tryz.prog 330 = some (.nilf) := by kernel_rfl
theorem by330 : (Tryz.prog.info? 330).map (·.bytes) = some 8 := by kernel_rfl
attribute [simp] cs330 ag330 ze330 by330 Tryz.underlying330
theorem cs331 : csize Tryz.prog 331 = some 1 := by kernel_rfl
theorem ag331 : aggT Tryz.prog 331 = some false := by kernel_rfl
theorem ze331 : zeroAV Tryz.prog 331 = some (.nilf) := by kernel_rfl
theorem by331 : (Tryz.prog.info? 331).map (·.bytes) = some 8 := by kernel_rfl
attribute [simp] cs331 ag331 ze331 by331 Tryz.underlying331
theorem cs332 : csize Tryz.prog 332 = some 1 := by kernel_rfl
theorem ag332 : aggT Tryz.prog 332 = some false := by kernel_rfl
theorem by332 : (Tryz.prog.info? 332).map (·.bytes) = some 0 := by kernel_rfl
attribute [simp] cs332 ag332 by332 Tryz.underlying332
theorem cs333 : csize Tryz.prog 333 = some 1 := by kernel_rfl
theorem ag333 : aggT Tryz.prog 333 = some false := by kernel_rfl
theorem ze333 : zeroAV Tryz.prog 333 = some (.nilf) := by kernel_rfl
theorem by333 : (Tryz.prog.info? 333).map (·.bytes) = some 8 := by kernel_rfl
attribute [simp] cs333 ag333 ze333 by333 Tryz.underlying333
theorem cs334 : csize Tryz.prog 334 = some 1 := by kernel_rfl
theorem ag334 : aggT Tryz.prog 334 = some false := by kernel_rfl
theorem by334 : (Tryz.prog.info? 334).map (·.bytes) = some 0 := by kernel_rfl
attribute [simp] cs334 ag334 by334 Tryz.underlying334
theorem cs335 : csize Tryz.prog 335 = some 1 := by kernel_rfl
theorem ag335 : aggT Tryz.prog 335 = some false := by kernel_rfl
theorem ze335 : zeroAV Tryz.prog 335 = some (.nilf) := by kernel_rfl
theorem by335 : (Tryz.prog.info? 335).map (·.bytes) = some 8 := by kernel_rfl
attribute [simp] cs335 ag335 ze335 by335 Tryz.underlying335
theorem cs336 : csize Tryz.prog 336 = some 1 := by kernel_rfl
theorem ag336 : aggT Tryz.prog 336 = some false := by kernel_rfl
theorem ze336 : zeroAV Tryz.prog 336 = some (.nilf) := by kernel_rfl
theorem by336 : (Tryz.prog.info? 336).map (·.bytes) = some 8 := by kernel_rfl
attribute [simp] cs336 ag336 ze336 by336 Tryz.underlying336
theorem cs337 : csize Tryz.prog 337 = some 1 := by kernel_rfl
theorem ag337 : aggT Tryz.prog 337 = some false := by kernel_rfl
theorem ze337 : zeroAV Tryz.prog 337 = some (.nilp) := by kernel_rfl
theorem by337 : (Tryz.prog.info? 337).map (·.bytes) = some 8 := by kernel_rfl
attribute [simp] cs337 ag337 ze337 by337 Tryz.underlying337
theorem cs338 : csize Tryz.prog 338 = some 7 := by kernel_rfl
theorem ag338 : aggT Tryz.prog 338 = some true := by kernel_rfl
theorem ze338 : zeroAV Tryz.prog 338 = some (.agg [.nilp, .nilp, .nils, .nils, .int .i64 0, .nils, .int .i64 0]) := by kernel_rfl
theorem by338 : (Tryz.prog.info? 338).map (·.bytes) = some 104 := by kernel_rfl
attribute [simp] cs338 ag338 ze338 by338 Tryz.underlying338
theorem cs339 : csize Tryz.prog 339 = some 7 := by kernel_rfl
theorem ag339 : aggT Tryz.prog 339 = some true := by kernel_rfl
theorem ze339 : zeroAV Tryz.prog 339 = some (.agg [.nilp, .nilp, .nils, .nils, .int .i64 0, .nils, .int .i64 0]) := by kernel_rfl
theorem by339 : (Tryz.prog.info? 339).map (·.bytes) = some 104 := by kernel_rfl
attribute [simp] cs339 ag339 ze339 by339 Tryz.underlying339
theorem cs340 : csize Tryz.prog 340 = some 1 := by kernel_rfl
theorem ag340 : aggT Tryz.prog 340 = some false := by kernel_rfl
theorem ze340 : zeroAV Tryz.prog 340 = some (.nilf) := by kernel_rfl
theorem by340 : (Tryz.prog.info? 340).map (·.bytes) = some 8 := by kernel_rfl
attribute [simp] cs340 ag340 ze340 by340 Tryz.underlying340
theorem cs341 : csize Tryz.prog 341 = some 1 := by kernel_rfl
theorem ag341 : aggT Tryz.prog 341 = some false := by kernel_rfl
theorem ze341 : zeroAV Tryz.prog 341 = some (.nilf) := by kernel_rfl
theorem by341 : (Tryz.prog.info? 341).map (·.bytes) = some 8 := by kernel_rfl
attribute [simp] cs341 ag341 ze341 by341 Tryz.underlying341
theorem cs342 : csize Tryz.prog 342 = some 1 := by kernel_rfl
theorem ag342 : aggT Tryz.prog 342 = some false := by kernel_rfl
theorem ze342 : zeroAV Tryz.prog 342 = some (.nilf) := by kernel_rfl
theorem by342 : (Tryz.prog.info? 342).map (·.bytes) = some 8 := by kernel_rfl
attribute [simp] cs342 ag342 ze342 by342 Tryz.underlying342
theorem cs343 : csize Tryz.prog 343 = some 1 := by kernel_rfl
theorem ag343 : aggT Tryz.prog 343 = some false := by kernel_rfl
theorem ze343 : zeroAV Tryz.prog 343 = some (.nilf) := by kernel_rfl
theorem by343 : (Tryz.prog.info? 343).map (·.bytes) = some 8 := by kernel_rfl
attribute [simp] cs343 ag343 ze343 by343 Tryz.underlying343
theorem cs344 : csize Tryz.prog 344 = some 1 := by kernel_rfl
theorem ag344 : aggT Tryz.prog 344 = some false := by kernel_rfl
theorem ze344 : zeroAV Tryz.prog 344 = some (.nilf) := by kernel_rfl
theorem by344 : (Tryz.prog.info? 344).map (·.bytes) = some 8 := by kernel_rfl
attribute [simp] cs344 ag344 ze344 by344 Tryz.underlying344
theorem cs345 : csize Tryz.prog 345 = some 1 := by kernel_rfl
theorem ag345 : aggT Tryz.prog 345 = some false := by kernel_rfl
theorem by345 : (Tryz.prog.info? 345).map (·.bytes) = some 0 := by kernel_rfl
attribute [simp] cs345 ag345 by345 Tryz.underlying345
theorem cs346 : csize Tryz.prog 346 = some 1 := by kernel_rfl
theorem ag346 : aggT Tryz.prog 346 = some false := by kernel_rfl
theorem ze346 : zeroAV Tryz.prog 346 = some (.nilf) := by kernel_rfl
theorem by346 : (Tryz.prog.info? 346).map (·.bytes) = some 8 := by kernel_rfl
attribute [simp] cs346 ag346 ze346 by346 Tryz.underlying346
theorem cs347 : csize Tryz.prog 347 = some 3 := by kernel_rfl
theorem ag347 : aggT Tryz.prog 347 = some true := by kernel_rfl
theorem ze347 : zeroAV Tryz.prog 347 = some (.agg [.int .i64 0, .int .i64 0, .int .i64 0]) := by kernel_rfl
theorem by347 : (Tryz.prog.info? 347).map (·.bytes) = some 24 := by kernel_rfl
attribute [simp] cs347 ag347 ze347 by347 Tryz.underlying347
theorem cs348 : csize Tryz.prog 348 = some 3 := by kernel_rfl
theorem ag348 : aggT Tryz.prog 348 = some true := by kernel_rfl
theorem ze348 : zeroAV Tryz.prog 348 = some (.agg [.int .i64 0, .int .i64 0, .int .i64 0]) := by kernel_rfl
theorem by348 : (Tryz.prog.info? 348).map (·.bytes) = some 24 := by kernel_rfl
attribute [simp] cs348 ag348 ze348 by348 Tryz.underlying348
theorem cs349 : csize Tryz.prog 349 = some 1 := by kernel_rfl
theorem ag349 : aggT Tryz.prog 349 = some false := by kernel_rfl
theorem ze349 : zeroAV Tryz.prog 349 = some (.nilf) := by kernel_rfl
theorem by349 : (Tryz.prog.info? 349).map (·.bytes) = some 8 := by kernel_rfl
attribute [simp] cs349 ag349 ze349 by349 Tryz.underlying349
theorem cs350 : csize Tryz.prog 350 = some 1 := by kernel_rfl
theorem ag350 : aggT Tryz.prog 350 = some false := by kernel_rfl
theorem ze350 : zeroAV Tryz.prog 350 = some (.nilf) := by kernel_rfl
theorem by350 : (Tryz.prog.info? 350).map (·.bytes) = some 8 := by kernel_rfl
attribute [simp] cs350 ag350 ze350 by350 Tryz.underlying350
theorem cs351 : csize Tryz.prog 351 = some 1 := by kernel_rfl
theorem ag351 : aggT Tryz.prog 351 = some false := by kernel_rfl
theorem ze351 : zeroAV Tryz.prog 351 = some (.nilf) := by kernel_rfl
theorem by351 : (Tryz.prog.info? 351).map (·.bytes) = some 8 := by kernel_rfl
attribute [simp] cs351 ag351 ze351 by351 Tryz.underlying351
theorem cs352 : csize Tryz.prog 352 = some 1 := by kernel_rfl
theorem ag352 : aggT Tryz.prog 352 = some false := by kernel_rfl
theorem ze352 : zeroAV Tryz.prog 352 = some (.nilf) := by kernel_rfl
theorem by352 : (Tryz.prog.info? 352).map (·.bytes) = some 8 := by kernel_rfl
attribute [simp] cs352 ag352 ze352 by352 Tryz.underlying352
theorem cs353 : csize Tryz.prog 353 = some 1 := by kernel_rfl
theorem ag353 : aggT Tryz.prog 353 = some false := by kernel_rfl
theorem ze353 : zeroAV Tryz.prog 353 = some (.nilf) := by kernel_rfl
theorem by353 : (Tryz.prog.info? 353).map (·.bytes) = some 8 := by kernel_rfl
attribute [simp] cs353 ag353 ze353 by353 Tryz.underlying353
theorem cs354 : csize Tryz.prog 354 = some 1 := by kernel_rfl
theorem ag354 : aggT Tryz.prog 354 = some false := by kernel_rfl
theorem ze354 : zeroAV Tryz.prog 354 = some (.nilf) := by kernel_rfl
theorem by354 : (Tryz.prog.info? 354).map (·.bytes) = some 8 := by kernel_rfl
attribute [simp] cs354 ag354 ze354 by354 Tryz.underlying354
theorem cs355 : csize Tryz.prog 355 = some 1 := by kernel_rfl
theorem ag355 : aggT Tryz.prog 355 = some false := by kernel_rfl
theorem by355 : (Tryz.prog.info? 355).map (·.bytes) = some 0 := by kernel_rfl
attribute [simp] cs355 ag355 by355 Tryz.underlying355
theorem cs356 : csize Tryz.prog 356 = some 1 := by kernel_rfl
theorem ag356 : aggT Tryz.prog 356 = some false := by kernel_rfl
theorem ze356 : zeroAV Tryz.prog 356 = some (.nilf) := by kernel_rfl
theorem by356 : (Tryz.prog.info? 356).map (·.bytes) = some 8 := by kernel_rfl
attribute [simp] cs356 ag356 ze356 by356 Tryz.underlying356
theorem cs357 : csize Tryz.prog 357 = some 1 := by kernel_rfl
theorem ag357 : aggT Tryz.prog 357 = some false := by kernel_rfl
theorem ze357 : zeroAV Tryz.prog 357 = some (.nilf) := by kernel_rfl
theorem by357 : (Tryz.prog.info? 357).map (·.bytes) = some 8 := by kernel_rfl
attribute [simp] cs357 ag357 ze357 by357 Tryz.underlying357
theorem cs358 : csize Tryz.prog 358 = some 1 := by kernel_rfl
theorem ag358 : aggT Tryz.prog 358 = some false := by kernel_rfl
theorem ze358 : zeroAV Tryz.prog 358 = some (.nilf) := by kernel_rfl
theorem by358 : (Tryz.prog.info? 358).map (·.bytes) = some 8 := by kernel_rfl
attribute [simp] cs358 ag358 ze358 by358 Tryz.underlying358
theorem cs359 : csize Tryz.prog 359 = some 1 := by kernel_rfl
theorem ag359 : aggT Tryz.prog 359 = some false := by kernel_rfl
theorem by359 : (Tryz.prog.info? 359).map (·.bytes) = some 0 := by kernel_rfl
attribute [simp] cs359 ag359 by359 Tryz.underlying359
theorem cs360 : csize Tryz.prog 360 = some 1 := by kernel_rfl
theorem ag360 : aggT Tryz.prog 360 = some false := by kernel_rfl
theorem ze360 : zeroAV Tryz.prog 360 = some (.nilf) := by kernel_rfl
theorem by360 : (Tryz.prog.info? 360).map (·.bytes) = some 8 := by kernel_rfl
attribute [simp] cs360 ag360 ze360 by360 Tryz.underlying360
theorem cs361 : csize Tryz.prog 361 = some 1 := by kernel_rfl
theorem ag361 : aggT Tryz.prog 361 = some false := by kernel_rfl
theorem ze361 : zeroAV Tryz.prog 361 = some (.nilf) := by kernel_rfl
theorem by361 : (Tryz.prog.info? 361).map (·.bytes) = some 8 := by kernel_rfl
attribute [simp] cs361 ag361 ze361 by361 Tryz.underlying361
theorem cs362 : csize Tryz.prog 362 = some 1 := by kernel_rfl
theorem ag362 : aggT Tryz.prog 362 = some false := by kernel_rfl
theorem by362 : (Tryz.prog.info? 362).map (·.bytes) = some 0 := by kernel_rfl
attribute [simp] cs362 ag362 by362 Tryz.underlying362
theorem cs363 : csize Tryz.prog 363 = some 1 := by kernel_rfl
theorem ag363 : aggT Tryz.prog 363 = some false := by kernel_rfl
theorem ze363 : zeroAV Tryz.prog 363 = some (.nilf) := by kernel_rfl
theorem by363 : (Tryz.prog.info? 363).map (·.bytes) = some 8 := by kernel_rfl
attribute [simp] cs363 ag363 ze363 by363 Tryz.underlying363
theorem cs364 : csize Tryz.prog 364 = some 1 := by kernel_rfl
theorem ag364 : aggT Tryz.prog 364 = some false := by kernel_rfl
theorem ze364 : zeroAV Tryz.prog 364 = some (.nilf) := by kernel_rfl
theorem by364 : (Tryz.prog.info? 364).map (·.bytes) = some 8 := by kernel_rfl
attribute [simp] cs364 ag364 ze364 by364 Tryz.underlying364
theorem cs365 : csize Tryz.prog 365 = some 1 := by kernel_rfl
theorem ag365 : aggT Tryz.prog 365 = some false := by kernel_rfl
theorem by365 : (Tryz.prog.info? 365).map (·.bytes) = some 0 := by kernel_rfl
attribute [simp] cs365 ag365 by365 Tryz.underlying365
theorem cs366 : csize Tryz.prog 366 = some 1 := by kernel_rfl
theorem ag366 : aggT Tryz.prog 366 = some false := by kernel_rfl
theorem ze366 : zeroAV Tryz.prog 366 = some (.nilf) := by kernel_rfl
theorem by366 : (Tryz.prog.info? 366).map (·.bytes) = some 8 := by kernel_rfl
attribute [simp] cs366 ag366 ze366 by366 Tryz.underlying366
theorem cs367 : csize Tryz.prog 367 = some 1 := by kernel_rfl
theorem ag367 : aggT Tryz.prog 367 = some false := by kernel_rfl
theorem ze367 : zeroAV Tryz.prog 367 = some (.nilf) := by kernel_rfl
theorem by367 : (Tryz.prog.info? 367).map (·.bytes) = some 8 := by kernel_rfl
attribute [simp] cs367 ag367 ze367 by367 Tryz.underlying367
theorem cs368 : csize Tryz.prog 368 = some 1 := by kernel_rfl
theorem ag368 : aggT Tryz.prog 368 = some false := by kernel_rfl
theorem ze368 : zeroAV Tryz.prog 368 = some (.nilf) := by kernel_rfl
theorem by368 : (Tryz.prog.info? 368).map (·.bytes) = some 8 := by kernel_rfl
attribute [simp] cs368 ag368 ze368 by368 Tryz.underlying368
theorem cs369 : csize Tryz.prog 369 = some 1 := by kernel_rfl
theorem ag369 : aggT Tryz.prog 369 = some false := by kernel_rfl
theorem ze369 : zeroAV Tryz.prog 369 = some (.nils) := by kernel_rfl
theorem by369 : (Tryz.prog.info? 369).map (·.bytes) = some 24 := by kernel_rfl
attribute [simp] cs369 ag369 ze369 by369 Tryz.underlying369
theorem cs370 : csize Tryz.prog 370 = some 1 := by kernel_rfl
theorem ag370 : aggT Tryz.prog 370 = some false := by kernel_rfl
theorem ze370 : zeroAV Tryz.prog 370 = some (.nilf) := by kernel_rfl
theorem by370 : (Tryz.prog.info? 370).map (·.bytes) = some 8 := by kernel_rfl
attribute [simp] cs370 ag370 ze370 by370 Tryz.underlying370
theorem cs371 : csize Tryz.prog 371 = some 1 := by kernel_rfl
theorem ag371 : aggT Tryz.prog 371 = some false := by kernel_rfl
theorem ze371 : zeroAV Tryz.prog 371 = some (.nilf) := by kernel_rfl
theorem by371 : (Tryz.prog.info? 371).map (·.bytes) = some 8 := by kernel_rfl
attribute [simp] cs371 ag371 ze371 by371 Tryz.underlying371
theorem cs372 : csize Tryz.prog 372 = some 1 := by kernel_rfl
theorem ag372 : aggT Tryz.prog 372 = some false := by kernel_rfl
theorem ze372 : zeroAV Tryz.prog 372 = some (.nilf) := by kernel_rfl
theorem by372 : (Tryz.prog.info? 372).map (·.bytes) = some 8 := by kernel_rfl
attribute [simp] cs372 ag372 ze372 by372 Tryz.underlying372
theorem cs373 : csize Tryz.prog 373 = some 1 := by kernel_rfl
theorem ag373 : aggT Tryz.prog 373 = some false := by kernel_rfl
theorem ze373 : zeroAV Tryz.prog 373 = some (.nilf) := by kernel_rfl
theorem by373 : (Tryz.prog.info? 373).map (·.bytes) = some 8 := by kernel_rfl
attribute [simp] cs373 ag373 ze373 by373 Tryz.underlying373
theorem cs374 : csize Tryz.prog 374 = some 1 := by kernel_rfl
theorem ag374 : aggT Tryz.prog 374 = some false := by kernel_rfl
theorem ze374 : zeroAV Tryz.prog 374 = some (.nilf) := by kernel_rfl
theorem by374 : (Tryz.prog.info? 374).map (·.bytes) = some 8 := by kernel_rfl
attribute [simp] cs374 ag374 ze374 by374 Tryz.underlying374
theorem cs375 : csize Tryz.prog 375 = some 1 := by kernel_rfl
theorem ag375 : aggT Tryz.prog 375 = some false := by kernel_rfl
theorem ze375 : zeroAV Tryz.prog 375 = some (.nilf) := by kernel_rfl
theorem by375 : (Tryz.prog.info? 375).map (·.bytes) = some 8 := by kernel_rfl
attribute [simp] cs375 ag375 ze375 by375 Tryz.underlying375
theorem cs376 : csize Tryz.prog 376 = some 1 := by kernel_rfl
theorem ag376 : aggT Tryz.prog 376 = some false := by kernel_rfl
theorem ze376 : zeroAV Tryz.prog 376 = some (.nilf) := by kernel_rfl
theorem by376 : (Tryz.prog.info? 376).map (·.bytes) = some 8 := by kernel_rfl
attribute [simp] cs376 ag376 ze376 by376 Tryz.underlying376
theorem cs377 : csize Tryz.prog 377 = some 1 := by kernel_rfl
theorem ag377 : aggT Tryz.prog 377 = some false := by kernel_rfl
theorem ze377 : zeroAV Tryz.prog 377 = some (.nilf) := by kernel_rfl
theorem by377 : (Tryz.prog.info? 377).map (·.bytes) = some 8 := by kernel_rfl
attribute [simp] cs377 ag377 ze377 by377 Tryz.underlying377
theorem cs378 : csize Tryz.prog 378 = some 1 := by kernel_rfl
theorem ag378 : aggT Tryz.prog 378 = some false := by kernel_rfl
theorem ze378 : zeroAV Tryz.prog 378 = some (.nilf) := by kernel_rfl
theorem by378 : (Tryz.prog.info? 378).map (·.bytes) = some 8 := by kernel_rfl
attribute [simp] cs378 ag378 ze378 by378 Tryz.underlying378
theorem cs379 : csize Tryz.prog 379 = some 1 := by kernel_rfl
theorem ag379 : aggT Tryz.prog 379 = some false := by kernel_rfl
theorem ze379 : zeroAV Tryz.prog 379 = some (.nilf) := by kernel_rfl
theorem by379 : (Tryz.prog.info? 379).map (·.bytes) = some 8 := by kernel_rfl
attribute [simp] cs379 ag379 ze379 by379 Tryz.underlying379
theorem cs380 : csize Tryz.prog 380 = some 1 := by kernel_rfl
theorem ag380 : aggT Tryz.prog 380 = some false := by kernel_rfl
theorem ze380 : zeroAV Tryz.prog 380 = some (.nilf) := by kernel_rfl
theorem by380 : (Tryz.prog.info? 380).map (·.bytes) = some 8 := by kernel_rfl
attribute [simp] cs380 ag380 ze380 by380 Tryz.underlying380
theorem cs381 : csize Tryz.prog 381 = some 1 := by kernel_rfl
theorem ag381 : aggT Tryz.prog 381 = some false := by kernel_rfl
theorem ze381 : zeroAV Tryz.prog 381 = some (.nilf) := by kernel_rfl
theorem by381 : (Tryz.prog.info? 381).map (·.bytes) = some 8 := by kernel_rfl
attribute [simp] cs381 ag381 ze381 by381 Tryz.underlying381
theorem cs382 : csize Tryz.prog 382 = some 1 := by kernel_rfl
theorem ag382 : aggT Tryz.prog 382 = some false := by kernel_rfl
theorem ze382 : zeroAV Tryz.prog 382 = some (.nilf) := by kernel_rfl
theorem by382 : (Tryz.prog.info? 382).map (·.bytes) = some 8 := by kernel_rfl
attribute [simp] cs382 ag382 ze382 by382 Tryz.underlying382
theorem cs383 : csize Tryz.prog 383 = some 1 := by kernel_rfl
theorem ag383 : aggT Tryz.prog 383 = some false := by kernel_rfl
theorem ze383 : zeroAV Tryz.prog 383 = some (.nilf) := by kernel_rfl
theorem by383 : (Tryz.prog.info? 383).map (·.bytes) = some 8 := by kernel_rfl
attribute [simp] cs383 ag383 ze383 by383 Tryz.underlying383
theorem cs384 : csize Tryz.prog 384 = some 1 := by kernel_rfl
theorem ag384 : aggT Tryz.prog 384 = some false := by kernel_rfl
theorem ze384 : zeroAV Tryz.prog 384 = some (.nilf) := by kernel_rfl
theorem by384 : (Tryz.prog.info? 384).map (·.bytes) = some 8 := by kernel_rfl
attribute [simp] cs384 ag384 ze384 by384 Tryz.underlying384
theorem cs385 : csize Tryz.prog 385 = some 1 := by kernel_rfl
theorem ag385 : aggT Tryz.prog 385 = some false := by kernel_rfl
theorem ze385 : zeroAV Tryz.prog 385 = some (.nilf) := by kernel_rfl
theorem by385 : (Tryz.prog.info? 385).map (·.bytes) = some 8 := by kernel_rfl
attribute [simp] cs385 ag385 ze385 by385 Tryz.underlying385
theorem cs386 : csize Tryz.prog 386 = some 1 := by kernel_rfl
theorem ag386 : aggT Tryz.prog 386 = some false := by kernel_rfl
theorem ze386 : zeroAV Tryz.prog 386 = some (.nilf) := by kernel_rfl
theorem by386 : (Tryz.prog.info? 386).map (·.bytes) = some 8 := by kernel_rfl
attribute [simp] cs386 ag386 ze386 by386 Tryz.underlying386
theorem cs387 : csize Tryz.prog 387 = some 1 := by kernel_rfl
theorem ag387 : aggT Tryz.prog 387 = some false := by kernel_rfl
theorem ze387 : zeroAV Tryz.prog 387 = some (.nilf) := by kernel_rfl
theorem by387 : (Tryz.prog.info? 387).map (·.bytes) = some 8 := by kernel_rfl
attribute [simp] cs387 ag387 ze387 by387 Tryz.underlying387
theorem cs388 : csize Tryz.prog 388 = some 1 := by kernel_rfl
theorem ag388 : aggT Tryz.prog 388 = some false := by kernel_rfl
theorem ze388 : zeroAV Tryz.prog 388 = some (.nilf) := by kernel_rfl
theorem by388 : (Tryz.prog.info? 388).map (·.bytes) = some 8 := by kernel_rfl
attribute [simp] cs388 ag388 ze388 by388 Tryz.underlying388
theorem cs389 : csize Tryz.prog 389 = some 1 := by kernel_rfl
theorem ag389 : aggT Tryz.prog 389 = some false := by kernel_rfl
theorem ze389 : zeroAV Tryz.prog 389 = some (.nilf) := by kernel_rfl
theorem by389 : (Tryz.prog.info? 389).map (·.bytes) = some 8 := by kernel_rfl
attribute [simp] cs389 ag389 ze389 by389 Tryz.underlying389
theorem cs390 : csize Tryz.prog 390 = some 1 := by kernel_rfl
theorem ag390 : aggT Tryz.prog 390 = some false := by kernel_rfl
theorem ze390 : zeroAV Tryz.prog 390 = some (.nilf) := by kernel_rfl
theorem by390 : (Tryz.prog.info? 390).map (·.bytes) = some 8 := by kernel_rfl
attribute [simp] cs390 ag390 ze390 by390 Tryz.underlying390
theorem cs391 : csize Tryz.prog 391 = some 1 := by kernel_rfl
theorem ag391 : aggT Tryz.prog 391 = some false := by kernel_rfl
theorem ze391 : zeroAV Tryz.prog 391 = some (.nilf) := by kernel_rfl
theorem by391 : (Tryz.prog.info? 391).map (·.bytes) = some 8 := by kernel_rfl
attribute [simp] cs391 ag391 ze391 by391 Tryz.underlying391
theorem cs392 : csize Tryz.prog 392 = some 1 := by kernel_rfl
theorem ag392 : aggT Tryz.prog 392 = some false := by kernel_rfl
theorem ze392 : zeroAV Tryz.prog 392 = some (.nilf) := by kernel_rfl
theorem by392 : (Tryz.prog.info? 392).map (·.bytes) = some 8 := by kernel_rfl
attribute [simp] cs392 ag392 ze392 by392 Tryz.underlying392
theorem cs393 : csize Tryz.prog 393 = some 1 := by kernel_rfl
theorem ag393 : aggT Tryz.prog 393 = some false := by kernel_rfl
theorem by393 : (Tryz.prog.info? 393).map (·.bytes) = some 0 := by kernel_rfl
attribute [simp] cs393 ag393 by393 Tryz.underlying393
theorem cs394 : csize Tryz.prog 394 = some 1 := by kernel_rfl
theorem ag394 : aggT Tryz.prog 394 = some false := by kernel_rfl
theorem ze394 : zeroAV Tryz.prog 394 = some (.nilf) := by kernel_rfl
theorem by394 : (Tryz.prog.info? 394).map (·.bytes) = some 8 := by kernel_rfl
attribute [simp] cs394 ag394 ze394 by394 Tryz.underlying394
theorem cs395 : csize Tryz.prog 395 = some 1 := by kernel_rfl
theorem ag395 : aggT Tryz.prog 395 = some false := by kernel_rfl
theorem by395 : (Tryz.prog.info? 395).map (·.bytes) = some 0 := by kernel_rfl
attribute [simp] cs395 ag395 by395 Tryz.underlying395
theorem cs396 : csize Tryz.prog 396 = some 1 := by kernel_rfl
theorem ag396 : aggT Tryz.prog 396 = some false := by kernel_rfl
theorem ze396 : zeroAV Tryz.prog 396 = some (.nilf) := by kernel_rfl
theorem by396 : (Tryz.prog.info? 396).map (·.bytes) = some 8 := by kernel_rfl
attribute [simp] cs396 ag396 ze396 by396 Tryz.underlying396
theorem cs397 : csize Tryz.prog 397 = some 1 := by kernel_rfl
theorem ag397 : aggT Tryz.prog 397 = some false := by kernel_rfl
theorem ze397 : zeroAV Tryz.prog 397 = some (.nilp) := by kernel_rfl
theorem by397 : (Tryz.prog.info? 397).map (·.bytes) = some 8 := by kernel_rfl
attribute [simp] cs397 ag397 ze397 by397 Tryz.underlying397
theorem cs398 : csize Tryz.prog 398 = some 1 := by kernel_rfl
theorem ag398 : aggT Tryz.prog 398 = some false := by kernel_rfl
theorem ze398 : zeroAV Tryz.prog 398 = some (.nilf) := by kernel_rfl
theorem by398 : (Tryz.prog.info? 398).map (·.bytes) = some 8 := by kernel_rfl
attribute [simp] cs398 ag398 ze398 by398 Tryz.underlying398
theorem cs399 : csize Tryz.prog 399 = some 1 := by kernel_rfl
theorem ag399 : aggT Tryz.prog 399 = some false := by kernel_rfl
theorem by399 : (Tryz.prog.info? 399).map (·.bytes) = some 0 := by kernel_rfl
attribute [simp] cs399 ag399 by399 Tryz.underlying399
theorem cs400 : csize Tryz.prog 400 = some 1 := by kernel_rfl
theorem ag400 : aggT Tryz.prog 400 = some false := by kernel_rfl
theorem ze400 : zeroAV Tryz.prog 400 = some (.nilf) := by kernel_rfl
theorem by400 : (Tryz.prog.info? 400).map (·.bytes) = some 8 := by kernel_rfl
attribute [simp] cs400 ag400 ze400 by400 Tryz.underlying400
theorem cs401 : csize Tryz.prog 401 = some 1 := by kernel_rfl
theorem ag401 : aggT Tryz.prog 401 = some false := by kernel_rfl
theorem ze401 : zeroAV Tryz.prog 401 = some (.nilf) := by kernel_rfl
theorem by401 : (Tryz.prog.info? 401).map (·.bytes) = some 8 := by kernel_rfl
attribute [simp] cs401 ag401 ze401 by401 Tryz.underlying401
theorem cs402 : csize Tryz.prog 402 = some 1 := by kernel_rfl
theorem ag402 : aggT Tryz.prog 402 = some false := by kernel_rfl
theorem ze402 : zeroAV Tryz.prog 402 = some (.nilf) := by kernel_rfl
theorem by402 : (Tryz.prog.info? 402).map (·.bytes) = some 8 := by kernel_rfl
attribute [simp] cs402 ag402 ze402 by402 Tryz.underlying402
theorem cs403 : csize Tryz.prog 403 = some 1 := by kernel_rfl
theorem ag403 : aggT Tryz.prog 403 = some false := by kernel_rfl
theorem ze403 : zeroAV Tryz.prog 403 = some (.nilf) := by kernel_rfl
theorem by403 : (Tryz.prog.info? 403).map (·.bytes) = some 8 := by kernel_rfl
attribute [simp] cs403 ag403 ze403 by403 Tryz.underlying403
theorem cs404 : csize Tryz.prog 404 = some 1 := by kernel_rfl
theorem ag404 : aggT Tryz.prog 404 = some false := by kernel_rfl
theorem by404 : (Tryz.prog.info? 404).map (·.bytes) = some 0 := by kernel_rfl
attribute [simp] cs404 ag404 by404 Tryz.underlying404
theorem cs405 : csize Tryz.prog 405 = some 1 := by kernel_rfl
theorem ag405 : aggT Tryz.prog 405 = some false := by kernel_rfl
theorem ze405 : zeroAV Tryz.prog 405 = some (.nilf) := by kernel_rfl
theorem by405 : (Tryz.prog.info? 405).map (·.bytes) = some 8 := by kernel_rfl
attribute [simp] cs405 ag405 ze405 by405 Tryz.underlying405
theorem cs406 : csize Tryz.prog 406 = some 1 := by kernel_rfl
theorem ag406 : aggT Tryz.prog 406 = some false := by kernel_rfl
theorem ze406 : zeroAV Tryz.prog 406 = some (.nilf) := by kernel_rfl
theorem by406 : (Tryz.prog.info? 406).map (·.bytes) = some 8 := by kernel_rfl
attribute [simp] cs406 ag406 ze406 by406 Tryz.underlying406
theorem cs407 : csize Tryz.prog 407 = some 1 := by kernel_rfl
theorem ag407 : aggT Tryz.prog 407 = some false := by kernel_rfl
theorem ze407 : zeroAV Tryz.prog 407 = some (.nilf) := by kernel_rfl
theorem by407 : (Tryz.prog.info? 407).map (·.bytes) = some 8 := by kernel_rfl
attribute [simp] cs407 ag407 ze407 by407 Tryz.underlying407
theorem cs408 : csize Tryz.prog 408 = some 1 := by kernel_rfl
theorem ag408 : aggT Tryz.prog 408 = some false := by kernel_rfl
theorem ze408 : zeroAV Tryz.prog 408 = some (.nilf) := by kernel_rfl
theorem by408 : (Tryz.prog.info? 408).map (·.bytes) = some 8 := by kernel_rfl
attribute [simp] cs408 ag408 ze408 by408 Tryz.underlying408
theorem cs409 : csize Tryz.prog 409 = some 1 := by kernel_rfl
theorem ag409 : aggT Tryz.prog 409 = some false := by kernel_rfl
theorem by409 : (Tryz.prog.info? 409).map (·.bytes) = some 0 := by kernel_rfl
attribute [simp] cs409 ag409 by409 Tryz.underlying409
theorem cs410 : csize Tryz.prog 410 = some 1 := by kernel_rfl
theorem ag410 : aggT Tryz.prog 410 = some false := by kernel_rfl
theorem ze410 : zeroAV Tryz.prog 410 = some (.nilf) := by kernel_rfl
theorem by410 : (Tryz.prog.info? 410).map (·.bytes) = some 8 := by kernel_rfl
attribute [simp] cs410 ag410 ze410 by410 Tryz.underlying410
theorem cs411 : csize Tryz.prog 411 = some 1 := by kernel_rfl
theorem ag411 : aggT Tryz.prog 411 = some false := by kernel_rfl
theorem ze411 : zeroAV Tryz.prog 411 = some (.nilp) := by kernel_rfl
theorem by411 : (Tryz.prog.info? 411).map (·.bytes) = some 8 := by kernel_rfl
attribute [simp] cs411 ag411 ze411 by411 Tryz.underlying411
theorem cs412 : csize Tryz.prog 412 = some 1 := by kernel_rfl
theorem ag412 : aggT Tryz.prog 412 = some false := by kernel_rfl
theorem ze412 : zeroAV Tryz.prog 412 = some (.nilf) := by kernel_rfl
theorem by412 : (Tryz.prog.info? 412).map (·.bytes) = some 8 := by kernel_rfl
attribute [simp] cs412 ag412 ze412 by412 Tryz.underlying412
theorem cs413 : csize Tryz.prog 413 = some 1 := by kernel_rfl
theorem ag413 : aggT Tryz.prog 413 = some false := by kernel_rfl
theorem ze413 : zeroAV Tryz.prog 413 = some (.nilf) := by kernel_rfl
theorem by413 : (Tryz.prog.info? 413).map (·.bytes) = some 8 := by kernel_rfl
attribute [simp] cs413 ag413 ze413 by413 Tryz.underlying413
theorem cs414 : csize Tryz.prog 414 = some 1 := by kernel_rfl
theorem ag414 : aggT Tryz.prog 414 = some false := by kernel_rfl
theorem ze414 : zeroAV Tryz.prog 414 = some (.nilf) := by kernel_rfl
theorem by414 : (Tryz.prog.info? 414).map (·.bytes) = some 8 := by kernel_rfl
attribute [simp] cs414 ag414 ze414 by414 Tryz.underlying414
theorem cs415 : csize Tryz.prog 415 = some 1 := by kernel_rfl
theorem ag415 : aggT Tryz.prog 415 = some false := by kernel_rfl
theorem ze415 : zeroAV Tryz.prog 415 = some (.nilf) := by kernel_rfl
theorem by415 : (Tryz.prog.info? 415).map (·.bytes) = some 8 := by kernel_rfl
attribute [simp] cs415 ag415 ze415 by415 Tryz.underlying415
theorem cs416 : csize Tryz.prog 416 = some 1 := by kernel_rfl
theorem ag416 : aggT Tryz.prog 416 = some false := by kernel_rfl
theorem ze416 : zeroAV Tryz.prog 416 = some (.nilf) := by kernel_rfl
theorem by416 : (Tryz.prog.info? 416).map (·.bytes) = some 8 := by kernel_rfl
attribute [simp] cs416 ag416 ze416 by416 Tryz.underlying416
theorem cs417 : csize Tryz.prog 417 = some 1 := by kernel_rfl
theorem ag417 : aggT Tryz.prog 417 = some false := by kernel_rfl
theorem ze417 : zeroAV Tryz.prog 417 = some (.nilf) := by kernel_rfl
theorem by417 : (Tryz.prog.info? 417).map (·.bytes) = some 8 := by kernel_rfl
attribute [simp] cs417 ag417 ze417 by417 Tryz.underlying417
theorem cs418 : csize Tryz.prog 418 = some 1 := by kernel_rfl
theorem ag418 : aggT Tryz.prog 418 = some false := by kernel_rfl
theorem ze418 : zeroAV Tryz.prog 418 = some (.nilf) := by kernel_rfl
theorem by418 : (Tryz.prog.info? 418).map (·.bytes) = some 8 := by kernel_rfl
attribute [simp] cs418 ag418 ze418 by418 Tryz.underlying418
theorem cs419 : csize Tryz.prog 419 = some 1 := by kernel_rfl
theorem ag419 : aggT Tryz.prog 419 = some false := by kernel_rfl
theorem ze419 : zeroAV Tryz.prog 419 = some (.nilf) := by kernel_rfl
theorem by419 : (Tryz.prog.info? 419).map (·.bytes) = some 8 := by kernel_rfl
attribute [simp] cs419 ag419 ze419 by419 Tryz.underlying419
theorem cs420 : csize Tryz.prog 420 = some 1 := by kernel_rfl
theorem ag420 : aggT Tryz.prog 420 = some false := by kernel_rfl
theorem ze420 : zeroAV Tryz.prog 420 = some (.nilf) := by kernel_rfl
theorem by420 : (Tryz.prog.info? 420).map (·.bytes) = some 8 := by kernel_rfl
attribute [simp] cs420 ag420 ze420 by420 Tryz.underlying420
theorem cs421 : csize Tryz.prog 421 = some 1 := by kernel_rfl
theorem ag421 : aggT Tryz.prog 421 = some false := by kernel_rfl
theorem by421 : (Tryz.prog.info? 421).map (·.bytes) = some 0 := by kernel_rfl
attribute [simp] cs421 ag421 by421 Tryz.underlying421
theorem cs422 : csize Tryz.prog 422 = some 1 := by kernel_rfl
theorem ag422 : aggT Tryz.prog 422 = some false := by kernel_rfl
theorem ze422 : zeroAV Tryz.prog 422 = some (.nilf) := by kernel_rfl
theorem by422 : (Tryz.prog.info? 422).map (·.bytes) = some 8 := by kernel_rfl
attribute [simp] cs422 ag422 ze422 by422 Tryz.underlying422
theorem cs423 : csize Tryz.prog 423 = some 1 := by kernel_rfl
theorem ag423 : aggT Tryz.prog 423 = some false := by kernel_rfl
theorem ze423 : zeroAV Tryz.prog 423 = some (.nilf) := by kernel_rfl
theorem by423 : (Tryz.prog.info? 423).map (·.bytes) = some 8 := by kernel_rfl
attribute [simp] cs423 ag423 ze423 by423 Tryz.underlying423
theorem cs424 : csize Tryz.prog 424 = some 1 := by kernel_rfl
theorem ag424 : aggT Tryz.prog 424 = some false := by kernel_rfl
theorem ze424 : zeroAV Tryz.prog 424 = some (.nilf) := by kernel_rfl
theorem by424 : (Tryz.prog.info? 424).map (·.bytes) = some 8 := by kernel_rfl
attribute [simp] cs424 ag424 ze424 by424 Tryz.underlying424
theorem cs425 : csize Tryz.prog 425 = some 1 := by kernel_rfl
theorem ag425 : aggT Tryz.prog 425 = some false := by kernel_rfl
theorem ze425 : zeroAV Tryz.prog 425 = some (.nilf) := by kernel_rfl
theorem by425 : (Tryz.prog.info? 425).map (·.bytes) = some 8 := by kernel_rfl
attribute [simp] cs425 ag425 ze425 by425 Tryz.underlying425
theorem cs426 : csize Tryz.prog 426 = some 1 := by kernel_rfl
theorem ag426 : aggT Tryz.prog 426 = some false := by kernel_rfl
theorem ze426 : zeroAV Tryz.prog 426 = some (.nilf) := by kernel_rfl
theorem by426 : (Tryz.prog.info? 426).map (·.bytes) = some 8 := by kernel_rfl
attribute [simp] cs426 ag426 ze426 by426 Tryz.underlying426
theorem cs427 : csize Tryz.prog 427 = some 1 := by kernel_rfl
theorem ag427 : aggT Tryz.prog 427 = some false := by kernel_rfl
theorem ze427 : zeroAV Tryz.prog 427 = some (.nilf) := by kernel_rfl
theorem by427 : (Tryz.prog.info? 427).map (·.bytes) = some 8 := by kernel_rfl
attribute [simp] cs427 ag427 ze427 by427 Tryz.underlying427
theorem cs428 : csize Tryz.prog 428 = some 1 := by kernel_rfl
theorem ag428 : aggT Tryz.prog 428 = some false := by kernel_rfl
theorem ze428 : zeroAV Tryz.prog 428 = some (.nilf) := by kernel_rfl
theorem by428 : (Tryz.prog.info? 428).map (·.bytes) = some 8 := by kernel_rfl
attribute [simp] cs428 ag428 ze428 by428 Tryz.underlying428
theorem cs429 : csize Tryz.prog 429 = some 1 := by kernel_rfl
theorem ag429 : aggT Tryz.prog 429 = some false := by kernel_rfl
theorem ze429 : zeroAV Tryz.prog 429 = some (.nilf) := by kernel_rfl
theorem by429 : (Tryz.prog.info? 429).map (·.bytes) = some 8 := by kernel_rfl
attribute [simp] cs429 ag429 ze429 by429 Tryz.underlying429
theorem cs430 : csize Tryz.prog 430 = some 1 := by kernel_rfl
theorem ag430 : aggT Tryz.prog 430 = some false := by kernel_rfl
theorem ze430 : zeroAV Tryz.prog 430 = some (.nilf) := by kernel_rfl
theorem by430 : (Tryz.prog.info? 430).map (·.bytes) = some 8 := by kernel_rfl
attribute [simp] cs430 ag430 ze430 by430 Tryz.underlying430
theorem cs431 : csize Tryz.prog 431 = some 1 := by kernel_rfl
theorem ag431 : aggT Tryz.prog 431 = some false := by kernel_rfl
theorem ze431 : zeroAV Tryz.prog 431 = some (.nilf) := by kernel_rfl
theorem by431 : (Tryz.prog.info? 431).map (·.bytes) = some 8 := by kernel_rfl
attribute [simp] cs431 ag431 ze431 by431 Tryz.underlying431
theorem cs432 : csize Tryz.prog 432 = some 1 := by kernel_rfl
theorem ag432 : aggT Tryz.prog 432 = some false := by kernel_rfl
theorem ze432 : zeroAV Tryz.prog 432 = some (.nilf) := by kernel_rfl
theorem by432 : (Tryz.prog.info? 432).map (·.bytes) = some 8 := by kernel_rfl
attribute [simp] cs432 ag432 ze432 by432 Tryz.underlying432
theorem cs433 : csize Tryz.prog 433 = some 1 := by kernel_rfl
theorem ag433 : aggT Tryz.prog 433 = some false := by kernel_rfl
theorem ze433 : zeroAV Tryz.prog 433 = some (.int .i64 0) := by kernel_rfl
theorem by433 : (Tryz.prog.info? 433).map (·.bytes) = some 8 := by kernel_rfl
attribute [simp] cs433 ag433 ze433 by433 Tryz.underlying433
theorem cs434 : csize Tryz.prog 434 = some 1 := by kernel_rfl
theorem ag434 : aggT Tryz.prog 434 = some false := by kernel_rfl
theorem by434 : (Tryz.prog.info? 434).map (·.bytes) = some 0 := by kernel_rfl
attribute [simp] cs434 ag434 by434 Tryz.underlying434
theorem cs435 : csize Tryz.prog 435 = some 1 := by kernel_rfl
theorem ag435 : aggT Tryz.prog 435 = some false := by kernel_rfl
theorem ze435 : zeroAV Tryz.prog 435 = some (.nilf) := by kernel_rfl
theorem by435 : (Tryz.prog.info? 435).map (·.bytes) = some 8 := by kernel_rfl
attribute [simp] cs435 ag435 ze435 by435 Tryz.underlying435
theorem cs436 : csize Tryz.prog 436 = some 1 := by kernel_rfl
theorem ag436 : aggT Tryz.prog 436 = some false := by kernel_rfl
theorem ze436 : zeroAV Tryz.prog 436 = some (.nilf) := by kernel_rfl
theorem by436 : (Tryz.prog.info? 436).map (·.bytes) = some 8 := by kernel_rfl
attribute [simp] cs436 ag436 ze436 by436 Tryz.underlying436
theorem cs437 : csize Tryz.prog 437 = some 1 := by kernel_rfl
theorem ag437 : aggT Tryz.prog 437 = some false := by kernel_rfl
theorem ze437 : zeroAV Tryz.prog 437 = some (.nilf) := by kernel_rfl
theorem by437 : (Tryz.prog.info? 437).map (·.bytes) = some 8 := by kernel_rfl
attribute [simp] cs437 ag437 ze437 by437 Tryz.underlying437
theorem cs438 : csize Tryz.prog 438 = some 1 := by kernel_rfl
theorem ag438 : aggT Tryz.prog 438 = some false := by kernel_rfl
theorem ze438 : zeroAV Tryz.prog 438 = some (.nilf) := by kernel_rfl
theorem by438 : (Tryz.prog.info? 438).map (·.bytes) = some 8 := by kernel_rfl
attribute [simp] cs438 ag438 ze438 by438 Tryz.underlying438
theorem cs439 : csize Tryz.prog 439 = some 1 := by kernel_rfl
theorem ag439 : aggT Tryz.prog 439 = some false := by kernel_rfl
theorem by439 : (Tryz.prog.info? 439).map (·.bytes) = some 0 := by kernel_rfl
attribute [simp] cs439 ag439 by439 Tryz.underlying439
theorem cs440 : csize Tryz.prog 440 = some 1 := by kernel_rfl
theorem ag440 : aggT Tryz.prog 440 = some false := by kernel_rfl
theorem ze440 : zeroAV Tryz.prog 440 = some (.nilf) := by kernel_rfl
theorem by440 : (Tryz.prog.info? 440).map (·.bytes) = some 8 := by kernel_rfl
attribute [simp] cs440 ag440 ze440 by440 Tryz.underlying440
theorem cs441 : csize Tryz.prog 441 = some 1 := by kernel_rfl
theorem ag441 : aggT Tryz.prog 441 = some false := by kernel_rfl
theorem ze441 : zeroAV Tryz.prog 441 = some (.nilf) := by kernel_rfl
theorem by441 : (Tryz.prog.info? 441).map (·.bytes) = some 8 := by kernel_rfl
attribute [simp] cs441 ag441 ze441 by441 Tryz.underlying441
theorem cs442 : csize Tryz.prog 442 = some 1 := by kernel_rfl
theorem ag442 : aggT Tryz.prog 442 = some false := by kernel_rfl
theorem ze442 : zeroAV Tryz.prog 442 = some (.nilf) := by kernel_rfl
theorem by442 : (Tryz.prog.info? 442).map (·.bytes) = some 8 := by kernel_rfl
attribute [simp] cs442 ag442 ze442 by442 Tryz.underlying442
theorem cs443 : csize Tryz.prog 443 = some 1 := by kernel_rfl
theorem ag443 : aggT Tryz.prog 443 = some false := by kernel_rfl
theorem ze443 : zeroAV Tryz.prog 443 = some (.nilf) := by kernel_rfl
theorem by443 : (Tryz.prog.info? 443).map (·.bytes) = some 8 := by kernel_rfl
attribute [simp] cs443 ag443 ze443 by443 Tryz.underlying443
theorem cs444 : csize Tryz.prog 444 = some 1 := by kernel_rfl
theorem ag444 : aggT Tryz.prog 444 = some false := by kernel_rfl
theorem by444 : (Tryz.prog.info? 444).map (·.bytes) = some 0 := by kernel_rfl
attribute [simp] cs444 ag444 by444 Tryz.underlying444
theorem cs445 : csize Tryz.prog 445 = some 1 := by kernel_rfl
theorem ag445 : aggT Tryz.prog 445 = some false := by kernel_rfl
theorem ze445 : zeroAV Tryz.prog 445 = some (.nilf) := by kernel_rfl
theorem by445 : (Tryz.prog.info? 445).map (·.bytes) = some 8 := by kernel_rfl
attribute [simp] cs445 ag445 ze445 by445 Tryz.underlying445
theorem cs446 : csize Tryz.prog 446 = some 1 := by kernel_rfl
theorem ag446 : aggT Tryz.prog 446 = some false := by kernel_rfl
theorem ze446 : zeroAV Tryz.prog 446 = some (.nilf) := by kernel_rfl
theorem by446 : (Tryz.prog.info? 446).map (·.bytes) = some 8 := by kernel_rfl
attribute [simp] cs446 ag446 ze446 by446 Tryz.underlying446
theorem cs447 : csize Tryz.prog 447 = some 1 := by kernel_rfl
theorem ag447 : aggT Tryz.prog 447 = some false := by kernel_rfl
theorem by447 : (Tryz.prog.info? 447).map (·.bytes) = some 0 := by kernel_rfl
attribute [simp] cs447 ag447 by447 Tryz.underlying447
theorem cs448 : csize Tryz.prog 448 = some 1 := by kernel_rfl
theorem ag448 : aggT Tryz.prog 448 = some false := by kernel_rfl
theorem ze448 : zeroAV Tryz.prog 448 = some (.nilf) := by kernel_rfl
theorem by448 : (Tryz.prog.info? 448).map (·.bytes) = some 8 := by kernel_rfl
attribute [simp] cs448 ag448 ze448 by448 Tryz.underlying448
theorem cs449 : csize Tryz.prog 449 = some 1 := by kernel_rfl
theorem ag449 : aggT Tryz.prog 449 = some false := by kernel_rfl
theorem ze449 : zeroAV Tryz.prog 449 = some (.nilf) := by kernel_rfl
theorem by449 : (Tryz.prog.info? 449).map (·.bytes) = some 8 := by kernel_rfl
attribute [simp] cs449 ag449 ze449 by449 Tryz.underlying449
theorem cs450 : csize Tryz.prog 450 = some 1 := by kernel_rfl
theorem ag450 : aggT Tryz.prog 450 = some false := by kernel_rfl
theorem ze450 : zeroAV Tryz.prog 450 = some (.nilf) := by kernel_rfl
theorem by450 : (Tryz.prog.info? 450).map (·.bytes) = some 8 := by kernel_rfl
attribute [simp] cs450 ag450 ze450 by450 Tryz.underlying450
theorem cs451 : csize Tryz.prog 451 = some 1 := by kernel_rfl
theorem ag451 : aggT Tryz.prog 451 = some false := by kernel_rfl
theorem ze451 : zeroAV Tryz.prog 451 = some (.nilf) := by kernel_rfl
theorem by451 : (Tryz.prog.info? 451).map (·.bytes) = some 8 := by kernel_rfl
attribute [simp] cs451 ag451 ze451 by451 Tryz.underlying451
theorem cs452 : csize Tryz.prog 452 = some 1 := by kernel_rfl
theorem ag452 : aggT Tryz.prog 452 = some false := by kernel_rfl
theorem ze452 : zeroAV Tryz.prog 452 = some (.int .u16 0) := by kernel_rfl
theorem by452 : (Tryz.prog.info? 452).map (·.bytes) = some 2 := by kernel_rfl
attribute [simp] cs452 ag452 ze452 by452 Tryz.underlying452
theorem cs453 : csize Tryz.prog 453 = some 1 := by kernel_rfl
theorem ag453 : aggT Tryz.prog 453 = some false := by kernel_rfl
theorem ze453 : zeroAV Tryz.prog 453 = some (.nilf) := by kernel_rfl
theorem by453 : (Tryz.prog.info? 453).map (·.bytes) = some 8 := by kernel_rfl
attribute [simp] cs453 ag453 ze453 by453 Tryz.underlying453
theorem cs454 : csize Tryz.prog 454 = some 1 := by kernel_rfl
theorem ag454 : aggT Tryz.prog 454 = some false := by kernel_rfl
theorem ze454 : zeroAV Tryz.prog 454 = some (.nilf) := by kernel_rfl
theorem by454 : (Tryz.prog.info? 454).map (·.bytes) = some 8 := by kernel_rfl
attribute [simp] cs454 ag454 ze454 by454 Tryz.underlying454
theorem cs455 : csize Tryz.prog 455 = some 1 := by kernel_rfl
theorem ag455 : aggT Tryz.prog 455 = some false := by kernel_rfl
theorem ze455 : zeroAV Tryz.prog 455 = some (.nilf) := by kernel_rfl
theorem by455 : (Tryz.prog.info? 455).map (·.bytes) = some 8 := by kernel_rfl
attribute [simp] cs455 ag455 ze455 by455 Tryz.underlying455
theorem cs456 : csize Tryz.prog 456 = some 1 := by kernel_rfl
theorem ag456 : aggT Tryz.prog 456 = some false := by kernel_rfl
theorem ze456 : zeroAV Tryz.prog 456 = some (.nilf) := by kernel_rfl
theorem by456 : (Tryz.prog.info? 456).map (·.bytes) = some 8 := by kernel_rfl
attribute [simp] cs456 ag456 ze456 by456 Tryz.underlying456
theorem cs457 : csize Tryz.prog 457 = some 1 := by kernel_rfl
theorem ag457 : aggT Tryz.prog 457 = some false := by kernel_rfl
theorem ze457 : zeroAV Tryz.prog 457 = some (.nilf) := by kernel_rfl
theorem by457 : (Tryz.prog.info? 457).map (·.bytes) = some 8 := by kernel_rfl
attribute [simp] cs457 ag457 ze457 by457 Tryz.underlying457
theorem cs458 : csize Tryz.prog 458 = some 1 := by kernel_rfl
theorem ag458 : aggT Tryz.prog 458 = some false := by kernel_rfl
theorem ze458 : zeroAV Tryz.prog 458 = some (.nilf) := by kernel_rfl
theorem by458 : (Tryz.prog.info? 458).map (·.bytes) = some 8 := by kernel_rfl
attribute [simp] cs458 ag458 ze458 by458 Tryz.underlying458
theorem cs459 : csize Tryz.prog 459 = some 1 := by kernel_rfl
theorem ag459 : aggT Tryz.prog 459 = some false := by kernel_rfl
theorem ze459 : zeroAV Tryz.prog 459 = some (.nilf) := by kernel_rfl
theorem by459 : (Tryz.prog.info? 459).map (·.bytes) = some 8 := by kernel_rfl
attribute [simp] cs459 ag459 ze459 by459 Tryz.underlying459
theorem cs460 : csize Tryz.prog 460 = some 1 := by kernel_rfl
theorem ag460 : aggT Tryz.prog 460 = some false := by kernel_rfl
theorem ze460 : zeroAV Tryz.prog 460 = some (.nilf) := by kernel_rfl
theorem by460 : (Tryz.prog.info? 460).map (·.bytes) = some 8 := by kernel_rfl
attribute [simp] cs460 ag460 ze460 by460 Tryz.underlying460
theorem cs461 : csize Tryz.prog 461 = some 1 := by kernel_rfl
theorem ag461 : aggT Tryz.prog 461 = some false := by kernel_rfl
theorem ze461 : zeroAV Tryz.prog 461 = some (.nilf) := by kernel_rfl
theorem by461 : (Tryz.prog.info? 461).map (·.bytes) = some 8 := by kernel_rfl
attribute [simp] cs461 ag461 ze461 by461 Tryz.underlying461
theorem cs462 : csize Tryz.prog 462 = some 1 := by kernel_rfl
theorem ag462 : aggT Tryz.prog 462 = some false := by kernel_rfl
theorem ze462 : zeroAV Tryz.prog 462 = some (.nilf) := by kernel_rfl
theorem by462 : (Tryz.prog.info? 462).map (·.bytes) = some 8 := by kernel_rfl
attribute [simp] cs462 ag462 ze462 by462 Tryz.underlying462
theorem cs463 : csize Tryz.prog 463 = some 1 := by kernel_rfl
theorem ag463 : aggT Tryz.prog 463 = some false := by kernel_rfl
theorem ze463 : zeroAV Tryz.prog 463 = some (.nilf) := by kernel_rfl
theorem by463 : (Tryz.prog.info? 463).map (·.bytes) = some 8 := by kernel_rfl
attribute [simp] cs463 ag463 ze463 by463 Tryz.underlying463
theorem cs464 : csize Tryz.prog 464 = some 1 := by kernel_rfl
theorem ag464 : aggT Tryz.prog 464 = some false := by kernel_rfl
theorem ze464 : zeroAV Tryz.prog 464 = some (.nilp) := by kernel_rfl
theorem by464 : (Tryz.prog.info? 464).map (·.bytes) = some 8 := by kernel_rfl
attribute [simp] cs464 ag464 ze464 by464 Tryz.underlying464
theorem cs465 : csize Tryz.prog 465 = some 1 := by kernel_rfl
theorem ag465 : aggT Tryz.prog 465 = some false := by kernel_rfl
theorem by465 : (Tryz.prog.info? 465).map (·.bytes) = some 0 := by kernel_rfl
attribute [simp] cs465 ag465 by465 Tryz.underlying465
theorem cs466 : csize Tryz.prog 466 = some 1 := by kernel_rfl
theorem ag466 : aggT Tryz.prog 466 = some false := by kernel_rfl
theorem ze466 : zeroAV Tryz.prog 466 = some (.nilf) := by kernel_rfl
theorem by466 : (Tryz.prog.info? 466).map (·.bytes) = some 8 := by kernel_rfl
attribute [simp] cs466 ag466 ze466 by466 Tryz.underlying466
theorem cs467 : csize Tryz.prog 467 = some 1 := by kernel_rfl
theorem ag467 : aggT Tryz.prog 467 = some false := by kernel_rfl
theorem ze467 : zeroAV Tryz.prog 467 = some (.nilf) := by kernel_rfl
theorem by467 : (Tryz.prog.info? 467).map (·.bytes) = some 8 := by kernel_rfl
attribute [simp] cs467 ag467 ze467 by467 Tryz.underlying467
theorem cs468 : csize Tryz.prog 468 = some 2 := by kernel_rfl
theorem ag468 : aggT Tryz.prog 468 = some true := by kernel_rfl
theorem ze468 : zeroAV Tryz.prog 468 = some (.agg [.str [], .int .i64 0]) := by kernel_rfl
theorem by468 : (Tryz.prog.info? 468).map (·.bytes) = some 24 := by kernel_rfl
attribute [simp] cs468 ag468 ze468 by468 Tryz.underlying468
theorem cs469 : csize Tryz.prog 469 = some 2 := by kernel_rfl
theorem ag469 : aggT Tryz.prog 469 = some true := by kernel_rfl
theorem ze469 : zeroAV Tryz.prog 469 = some (.agg [.str [], .int .i64 0]) := by kernel_rfl
theorem by469 : (Tryz.prog.info? 469).map (·.bytes) = some 24 := by kernel_rfl
attribute [simp] cs469 ag469 ze469 by469 Tryz.underlying469
theorem cs470 : csize Tryz.prog 470 = some 1 := by kernel_rfl
theorem ag470 : aggT Tryz.prog 470 = some false := by kernel_rfl
theorem ze470 : zeroAV Tryz.prog 470 = some (.nilf) := by kernel_rfl
theorem by470 : (Tryz.prog.info? 470).map (·.bytes) = some 8 := by kernel_rfl
attribute [simp] cs470 ag470 ze470 by470 Tryz.underlying470
theorem cs471 : csize Tryz.prog 471 = some 1 := by kernel_rfl
theorem ag471 : aggT Tryz.prog 471 = some false := by kernel_rfl
theorem by471 : (Tryz.prog.info? 471).map (·.bytes) = some 0 := by kernel_rfl
attribute [simp] cs471 ag471 by471 Tryz.underlying471
theorem cs472 : csize Tryz.prog 472 = some 1 := by kernel_rfl
theorem ag472 : aggT Tryz.prog 472 = some false := by kernel_rfl
theorem ze472 : zeroAV Tryz.prog 472 = some (.nilf) := by kernel_rfl
theorem by472 : (Tryz.prog.info? 472).map (·.bytes) = some 8 := by kernel_rfl
attribute [simp] cs472 ag472 ze472 by472 Tryz.underlying472
theorem cs473 : csize Tryz.prog 473 = some 1 := by kernel_rfl
theorem ag473 : aggT Tryz.prog 473 = some false := by kernel_rfl
theorem ze473 : zeroAV Tryz.prog 473 = some (.nilf) := by kernel_rfl
theorem by473 : (Tryz.prog.info? 473).map (·.bytes) = some 8 := by kernel_rfl
attribute [simp] cs473 ag473 ze473 by473 Tryz.underlying473
theorem cs474 : csize Tryz.prog 474 = some 1 := by kernel_rfl
theorem ag474 : aggT Tryz.prog 474 = some false := by kernel_rfl
theorem ze474 : zeroAV Tryz.prog 474 = some (.nilf) := by kernel_rfl
theorem by474 : (Tryz.prog.info? 474).map (·.bytes) = some 8 := by kernel_rfl
attribute [simp] cs474 ag474 ze474 by474 Tryz.underlying474
theorem cs475 : csize Tryz.prog 475 = some 1 := by kernel_rfl
theorem ag475 : aggT Tryz.prog 475 = some false := by kernel_rfl
theorem ze475 : zeroAV Tryz.prog 475 = some (.nilf) := by kernel_rfl
theorem by475 : (Tryz.prog.info? 475).map (·.bytes) = some 8 := by kernel_rfl
attribute [simp] cs475 ag475 ze475 by475 Tryz.underlying475
theorem cs476 : csize Tryz.prog 476 = some 1 := by kernel_rfl
theorem ag476 : aggT Tryz.prog 476 = some false := by kernel_rfl
theorem ze476 : zeroAV Tryz.prog 476 = some (.int .u64 0) := by kernel_rfl
theorem by476 : (Tryz.prog.info? 476).map (·.bytes) = some 8 := by kernel_rfl
attribute [simp] cs476 ag476 ze476 by476 Tryz.underlying476
theorem cs477 : csize Tryz.prog 477 = some 1 := by kernel_rfl
theorem ag477 : aggT Tryz.prog 477 = some false := by kernel_rfl
theorem ze477 : zeroAV Tryz.prog 477 = some (.nilf) := by kernel_rfl
theorem by477 : (Tryz.prog.info? 477).map (·.bytes) = some 8 := by kernel_rfl
attribute [simp] cs477 ag477 ze477 by477 Tryz.underlying477
theorem cs478 : csize Tryz.prog 478 = some 1 := by kernel_rfl
theorem ag478 : aggT Tryz.prog 478 = some false := by kernel_rfl
theorem ze478 : zeroAV Tryz.prog 478 = some (.nilf) := by kernel_rfl
theorem by478 : (Tryz.prog.info? 478).map (·.bytes) = some 8 := by kernel_rfl
attribute [simp] cs478 ag478 ze478 by478 Tryz.underlying478
theorem cs479 : csize Tryz.prog 479 = some 1 := by kernel_rfl
theorem ag479 : aggT Tryz.prog 479 = some false := by kernel_rfl
theorem ze479 : zeroAV Tryz.prog 479 = some (.nilf) := by kernel_rfl
theorem by479 : (Tryz.prog.info? 479).map (·.bytes) = some 8 := by kernel_rfl
attribute [simp] cs479 ag479 ze479 by479 Tryz.underlying479
theorem cs480 : csize Tryz.prog 480 = some 1 := by kernel_rfl
theorem ag480 : aggT Tryz.prog 480 = some false := by kernel_rfl
theorem ze480 : zeroAV Tryz.prog 480 = some (.nilp) := by kernel_rfl
theorem by480 : (Tryz.prog.info? 480).map (·.bytes) = some 8 := by kernel_rfl
attribute [simp] cs480 ag480 ze480 by480 Tryz.underlying480
theorem cs481 : csize Tryz.prog 481 = some 1 := by kernel_rfl
theorem ag481 : aggT Tryz.prog 481 = some false := by kernel_rfl
theorem ze481 : zeroAV Tryz.prog 481 = some (.nilf) := by kernel_rfl
theorem by481 : (Tryz.prog.info? 481).map (·.bytes) = some 8 := by kernel_rfl
attribute [simp] cs481 ag481 ze481 by481 Tryz.underlying481
theorem cs482 : csize Tryz.prog 482 = some 1 := by kernel_rfl
theorem ag482 : aggT Tryz.prog 482 = some false := by kernel_rfl
theorem by482 : (Tryz.prog.info? 482).map (·.bytes) = some 0 := by kernel_rfl
attribute [simp] cs482 ag482 by482 Tryz.underlying482
theorem cs483 : csize Tryz.prog 483 = some 1 := by kernel_rfl
theorem ag483 : aggT Tryz.prog 483 = some false := by kernel_rfl
theorem ze483 : zeroAV Tryz.prog 483 = some (.nilf) := by kernel_rfl
theorem by483 : (Tryz.prog.info? 483).map (·.bytes) = some 8 := by kernel_rfl
attribute [simp] cs483 ag483 ze483 by483 Tryz.underlying483
theorem cs484 : csize Tryz.prog 484 = some 1 := by kernel_rfl
theorem ag484 : aggT Tryz.prog 484 = some false := by kernel_rfl
theorem ze484 : zeroAV Tryz.prog 484 = some (.nilf) := by kernel_rfl
theorem by484 : (Tryz.prog.info? 484).map (·.bytes) = some 8 := by kernel_rfl
attribute [simp] cs484 ag484 ze484 by484 Tryz.underlying484
theorem cs485 : csize Tryz.prog 485 = some 1 := by kernel_rfl
theorem ag485 : aggT Tryz.prog 485 = some false := by kernel_rfl
theorem ze485 : zeroAV Tryz.prog 485 = some (.nilf) := by kernel_rfl
theorem by485 : (Tryz.prog.info? 485).map (·.bytes) = some 8 := by kernel_rfl
attribute [simp] cs485 ag485 ze485 by485 Tryz.underlying485
theorem cs486 : csize Tryz.prog 486 = some 1 := by kernel_rfl
theorem ag486 : aggT Tryz.prog 486 = some false := by kernel_rfl
theorem ze486 : zeroAV Tryz.prog 486 = some (.nilf) := by kernel_rfl
theorem by486 : (Tryz.prog.info? 486).map (·.bytes) = some 8 := by kernel_rfl
attribute [simp] cs486 ag486 ze486 by486 Tryz.underlying486
theorem cs487 : csize Tryz.prog 487 = some 1 := by kernel_rfl
theorem ag487 : aggT Tryz.prog 487 = some false := by kernel_rfl
theorem ze487 : zeroAV Tryz.prog 487 = some (.nilf) := by kernel_rfl
theorem by487 : (Tryz.prog.info? 487).map (·.bytes) = some 8 := by kernel_rfl
attribute [simp] cs487 ag487 ze487 by487 Tryz.underlying487
theorem cs488 : csize Tryz.prog 488 = some 1 := by kernel_rfl
theorem ag488 : aggT Tryz.prog 488 = some false := by kernel_rfl
theorem ze488 : zeroAV Tryz.prog 488 = some (.nilf) := by kernel_rfl
theorem by488 : (Tryz.prog.info? 488).map (·.bytes) = some 8 := by kernel_rfl
attribute [simp] cs488 ag488 ze488 by488 Tryz.underlying488
theorem cs489 : csize Tryz.prog 489 = some 1 := by kernel_rfl
theorem ag489 : aggT Tryz.prog 489 = some false := by kernel_rfl
theorem ze489 : zeroAV Tryz.prog 489 = some (.nils) := by kernel_rfl
theorem by489 : (Tryz.prog.info? 489).map (·.bytes) = some 24 := by kernel_rfl
attribute [simp] cs489 ag489 ze489 by489 Tryz.underlying489
theorem cs490 : csize Tryz.prog 490 = some 1 := by kernel_rfl
theorem ag490 : aggT Tryz.prog 490 = some false := by kernel_rfl
theorem ze490 : zeroAV Tryz.prog 490 = some (.nilf) := by kernel_rfl
theorem by490 : (Tryz.prog.info? 490).map (·.bytes) = some 8 := by kernel_rfl
attribute [simp] cs490 ag490 ze490 by490 Tryz.underlying490
theorem cs491 : csize Tryz.prog 491 = some 1 := by kernel_rfl
theorem ag491 : aggT Tryz.prog 491 = some false := by kernel_rfl
theorem ze491 : zeroAV Tryz.prog 491 = some (.nilp) := by kernel_rfl
theorem by491 : (Tryz.prog.info? 491).map (·.bytes) = some 8 := by kernel_rfl
attribute [simp] cs491 ag491 ze491 by491 Tryz.underlying491
theorem cs492 : csize Tryz.prog 492 = some 1 := by kernel_rfl
theorem ag492 : aggT Tryz.prog 492 = some false := by kernel_rfl
theorem ze492 : zeroAV Tryz.prog 492 = some (.nilf) := by kernel_rfl
theorem by492 : (Tryz.prog.info? 492).map (·.bytes) = some 8 := by kernel_rfl
attribute [simp] cs492 ag492 ze492 by492 Tryz.underlying492
theorem cs493 : csize Tryz.prog 493 = some 1 := by kernel_rfl
theorem ag493 : aggT Tryz.prog 493 = some false := by kernel_rfl
theorem ze493 : zeroAV Tryz.prog 493 = some (.nilf) := by kernel_rfl
theorem by493 : (Tryz.prog.info? 493).map (·.bytes) = some 8 := by kernel_rfl
attribute [simp] cs493 ag493 ze493 by493 Tryz.underlying493
theorem cs494 : csize Tryz.prog 494 = some 4 := by kernel_rfl
theorem ag494 : aggT Tryz.prog 494 = some true := by kernel_rfl
theorem ze494 : zeroAV Tryz.prog 494 = some (.agg [.nilp, .nilp, .nilp, .str []]) := by kernel_rfl
theorem by494 : (Tryz.prog.info? 494).map (·.bytes) = some 40 := by kernel_rfl
attribute [simp] cs494 ag494 ze494 by494 Tryz.underlying494
theorem cs495 : csize Tryz.prog 495 = some 4 := by kernel_rfl
theorem ag495 : aggT Tryz.prog 495 = some true := by kernel_rfl
theorem ze495 : zeroAV Tryz.prog 495 = some (.agg [.nilp, .nilp, .nilp, .str []]) := by kernel_rfl
theorem by495 : (Tryz.prog.info? 495).map (·.bytes) = some 40 := by kernel_rfl
attribute [simp] cs495 ag495 ze495 by495 Tryz.underlying495
theorem cs496 : csize Tryz.prog 496 = some 0 := by kernel_rfl
theorem ag496 : aggT Tryz.prog 496 = some true := by kernel_rfl
theorem ze496 : zeroAV Tryz.prog 496 = some (.agg []) := by kernel_rfl
theorem by496 : (Tryz.prog.info? 496).map (·.bytes) = some 0 := by kernel_rfl
attribute [simp] cs496 ag496 ze496 by496 Tryz.underlying496
theorem cs497 : csize Tryz.prog 497 = some 0 := by kernel_rfl
theorem ag497 : aggT Tryz.prog 497 = some true := by kernel_rfl
theorem ze497 : zeroAV Tryz.prog 497 = some (.agg []) := by kernel_rfl
theorem by497 : (Tryz.prog.info? 497).map (·.bytes) = some 0 := by kernel_rfl
attribute [simp] cs497 ag497 ze497 by497 Tryz.underlying497
theorem cs498 : csize Tryz.prog 498 = some 0 := by kernel_rfl
theorem ag498 : aggT Tryz.prog 498 = some true := by kernel_rfl
theorem ze498 : zeroAV Tryz.prog 498 = some (.agg []) := by kernel_rfl
theorem by498 : (Tryz.prog.info? 498).map (·.bytes) = some 0 := by kernel_rfl
attribute [simp] cs498 ag498 ze498 by498 Tryz.underlying498
theorem cs499 : csize Tryz.prog 499 = some 1 := by kernel_rfl
theorem ag499 : aggT Tryz.prog 499 = some false := by kernel_rfl
theorem ze499 : zeroAV Tryz.prog 499 = some (.int .u8 0) := by kernel_rfl
theorem by499 : (Tryz.prog.info? 499).map (·.bytes) = some 1 := by kernel_rfl
attribute [simp] cs499 ag499 ze499 by499 Tryz.underlying499
theorem cs500 : csize Tryz.prog 500 = some 1 := by kernel_rfl
theorem ag500 : aggT Tryz.prog 500 = some false := by kernel_rfl
theorem ze500 : zeroAV Tryz.prog 500 = some (.int .u8 0) := by kernel_rfl
theorem by500 : (Tryz.prog.info? 500).map (·.bytes) = some 1 := by kernel_rfl
attribute [simp] cs500 ag500 ze500 by500 Tryz.underlying500
theorem cs501 : csize Tryz.prog 501 = some 1 := by kernel_rfl
theorem ag501 : aggT Tryz.prog 501 = some false := by kernel_rfl
theorem ze501 : zeroAV Tryz.prog 501 = some (.nilf) := by kernel_rfl
theorem by501 : (Tryz.prog.info? 501).map (·.bytes) = some 8 := by kernel_rfl
attribute [simp] cs501 ag501 ze501 by501 Tryz.underlying501
theorem cs502 : csize Tryz.prog 502 = some 1 := by kernel_rfl
theorem ag502 : aggT Tryz.prog 502 = some false := by kernel_rfl
theorem ze502 : zeroAV Tryz.prog 502 = some (.int .i32 0) := by kernel_rfl
theorem by502 : (Tryz.prog.info? 502).map (·.bytes) = some 4 := by kernel_rfl
attribute [simp] cs502 ag502 ze502 by502 Tryz.underlying502
theorem cs503 : csize Tryz.prog 503 = some 1 := by kernel_rfl
theorem ag503 : aggT Tryz.prog 503 = some false := by kernel_rfl
theorem ze503 : zeroAV Tryz.prog 503 = some (.int .i32 0) := by kernel_rfl
theorem by503 : (Tryz.prog.info? 503).map (·.bytes) = some 4 := by kernel_rfl
attribute [simp] cs503 ag503 ze503 by503 Tryz.underlying503
theorem cs504 : csize Tryz.prog 504 = some 11 := by kernel_rfl
theorem ag504 : aggT Tryz.prog 504 = some true := by kernel_rfl
theorem ze504 : zeroAV Tryz.prog 504 = some (.agg [.int .u64 0, .int .u64 0, .int .u32 0, .int .u8 0, .int .u8 0, .int .u8 0, .int .u8 0, .nilf, .nilp, .int .i32 0, .int .i32 0]) := by kernel_rfl
theorem by504 : (Tryz.prog.info? 504).map (·.bytes) = some 48 := by kernel_rfl
attribute [simp] cs504 ag504 ze504 by504 Tryz.underlying504
theorem cs505 : csize Tryz.prog 505 = some 11 := by kernel_rfl
theorem ag505 : aggT Tryz.prog 505 = some true := by kernel_rfl
theorem ze505 : zeroAV Tryz.prog 505 = some (.agg [.int .u64 0, .int .u64 0, .int .u32 0, .int .u8 0, .int .u8 0, .int .u8 0, .int .u8 0, .nilf, .nilp, .int .i32 0, .int .i32 0]) := by kernel_rfl
theorem by505 : (Tryz.prog.info? 505).map (·.bytes) = some 48 := by kernel_rfl
attribute [simp] cs505 ag505 ze505 by505 Tryz.underlying505
theorem cs506 : csize Tryz.prog 506 = some 1 := by kernel_rfl
theorem ag506 : aggT Tryz.prog 506 = some false := by kernel_rfl
theorem ze506 : zeroAV Tryz.prog 506 = some (.nilf) := by kernel_rfl
theorem by506 : (Tryz.prog.info? 506).map (·.bytes) = some 8 := by kernel_rfl
attribute [simp] cs506 ag506 ze506 by506 Tryz.underlying506
end Go.Proofs.YtcbileongahhiaaGreat.Ev
