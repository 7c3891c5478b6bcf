import Derived.Test.YtaifmmemfmapkaaGreatAbsB
import Derived.Test.YtaifmmemfmapkaaGreatTyTab
import Derived.Test.YtaifmmemfmapkaaGreatProg
namespace Go.Abs.R
open Go.Abs Go.Proofs
theorem tok1 : TyOk Tryz.prog 1 ty1 := tyOk_of Tryz.underlying1 Tryz.type1 (by decide +kernel) rfl rfl
theorem eok1 : ty1.eq = true → EqOk Tryz.prog 1 ty1 := fun h => by cases h
theorem tok2 : TyOk Tryz.prog 2 ty2 := tyOk_of Tryz.underlying2 Tryz.type2 (by decide +kernel) rfl rfl
theorem eok2 : ty2.eq = true → EqOk Tryz.prog 2 ty2 := fun h => by cases h
theorem tok3 : TyOk Tryz.prog 3 ty3 := tyOk_of Tryz.underlying3 Tryz.type3 (by decide +kernel) rfl rfl
theorem eok3 : ty3.eq = true → EqOk Tryz.prog 3 ty3 := fun h => by cases h
theorem tok4 : TyOk Tryz.prog 4 ty4 := tyOk_of Tryz.underlying4 Tryz.type4 (by decide +kernel) rfl rfl
theorem eok4 : ty4.eq = true → EqOk Tryz.prog 4 ty4 := fun h => by cases h
theorem tok5 : TyOk Tryz.prog 5 ty5 := tyOk_of Tryz.underlying5 Tryz.type5 (by decide +kernel) rfl rfl
theorem eok5 : ty5.eq = true → EqOk Tryz.prog 5 ty5 := fun h => by cases h
theorem tok6 : TyOk Tryz.prog 6 ty6 := tyOk_of Tryz.underlying6 Tryz.type6 (by decide +kernel) rfl rfl
theorem eok6 : ty6.eq = true → EqOk Tryz.prog 6 ty6 := fun h => by cases h
theorem tok7 : TyOk Tryz.prog 7 ty7 := tyOk_of Tryz.underlying7 Tryz.type7 (by decide +kernel) rfl rfl
theorem eok7 : ty7.eq = true → EqOk Tryz.prog 7 ty7 := fun _ => eqOk_of Tryz.eqGuardType7 (by decide +kernel)
theorem tok8 : TyOk Tryz.prog 8 ty8 := tyOk_of Tryz.underlying8 Tryz.type8 (by decide +kernel) rfl rfl
theorem eok8 : ty8.eq = true → EqOk Tryz.prog 8 ty8 := fun _ => eqOk_of Tryz.eqGuardType8 (by decide +kernel)
theorem tok9 : TyOk Tryz.prog 9 ty9 := tyOk_of Tryz.underlying9 Tryz.type9 (by decide +kernel) rfl rfl
theorem eok9 : ty9.eq = true → EqOk Tryz.prog 9 ty9 := fun h => by cases h
theorem tok10 : TyOk Tryz.prog 10 ty10 := tyOk_of Tryz.underlying10 Tryz.type10 (by decide +kernel) rfl rfl
theorem eok10 : ty10.eq = true → EqOk Tryz.prog 10 ty10 := fun h => by cases h
theorem tok11 : TyOk Tryz.prog 11 ty11 := tyOk_of Tryz.underlying11 Tryz.type11 (by decide +kernel) rfl rfl
theorem eok11 : ty11.eq = true → EqOk Tryz.prog 11 ty11 := fun h => by cases h
theorem tok12 : TyOk Tryz.prog 12 ty12 := tyOk_of Tryz.underlying12 Tryz.type12 (by decide +kernel) rfl rfl
theorem eok12 : ty12.eq = true → EqOk Tryz.prog 12 ty12 := fun h => by cases h
theorem tok13 : TyOk Tryz.prog 13 ty13 := tyOk_of Tryz.underlying13 Tryz.type13 (by decide +kernel) rfl rfl
theorem eok13 : ty13.eq = true → EqOk Tryz.prog 13 ty13 := fun h => by cases h
theorem tok14 : TyOk Tryz.prog 14 ty14 := tyOk_of Tryz.underlying14 Tryz.type14 (by decide +kernel) rfl rfl
theorem eok14 : ty14.eq = true → EqOk Tryz.prog 14 ty14 := fun h => by cases h
theorem tok15 : TyOk Tryz.prog 15 ty15 := tyOk_of Tryz.underlying15 Tryz.type15 (by decide +kernel) rfl rfl
theorem eok15 : ty15.eq = true → EqOk Tryz.prog 15 ty15 := fun h => by cases h
theorem tok16 : TyOk Tryz.prog 16 ty16 := tyOk_of Tryz.underlying16 Tryz.type16 (by decide +kernel) rfl rfl
theorem eok16 : ty16.eq = true → EqOk Tryz.prog 16 ty16 := fun h => by cases h
theorem tok17 : TyOk Tryz.prog 17 ty17 := tyOk_of Tryz.underlying17 Tryz.type17 (by decide +kernel) rfl rfl
theorem eok17 : ty17.eq = true → EqOk Tryz.prog 17 ty17 := fun h => by cases h
theorem tok18 : TyOk Tryz.prog 18 ty18 := tyOk_of Tryz.underlying18 Tryz.type18 (by decide +kernel) rfl rfl
theorem eok18 : ty18.eq = true → EqOk Tryz.prog 18 ty18 := fun h => by cases h
theorem tok19 : TyOk Tryz.prog 19 ty19 := tyOk_of Tryz.underlying19 Tryz.type19 (by decide +kernel) rfl rfl
theorem eok19 : ty19.eq = true → EqOk Tryz.prog 19 ty19 := fun h => by cases h
theorem tok20 : TyOk Tryz.prog 20 ty20 := tyOk_of Tryz.underlying20 Tryz.type20 (by decide +kernel) rfl rfl
theorem eok20 : ty20.eq = true → EqOk Tryz.prog 20 ty20 := fun h => by cases h
theorem tok21 : TyOk Tryz.prog 21 ty21 := tyOk_of Tryz.underlying21 Tryz.type21 (by decide +kernel) rfl rfl
theorem eok21 : ty21.eq = true → EqOk Tryz.prog 21 ty21 := fun h => by cases h
theorem tok22 : TyOk Tryz.prog 22 ty22 := tyOk_of Tryz.underlying22 Tryz.type22 (by decide +kernel) rfl rfl
theorem eok22 : ty22.eq = true → EqOk Tryz.prog 22 ty22 := fun h => by cases h
theorem tok23 : TyOk Tryz.prog 23 ty23 := tyOk_of Tryz.underlying23 Tryz.type23 (by decide +kernel) rfl rfl
theorem eok23 : ty23.eq = true → EqOk Tryz.prog 23 ty23 := fun h => by cases h
theorem tok24 : TyOk Tryz.prog 24 ty24 := tyOk_of Tryz.underlying24 Tryz.type24 (by decide +kernel) rfl rfl
theorem eok24 : ty24.eq = true → EqOk Tryz.prog 24 ty24 := fun h => by cases h
theorem tok25 : TyOk Tryz.prog 25 ty25 := tyOk_of Tryz.underlying25 Tryz.type25 (by decide +kernel) rfl rfl
theorem eok25 : ty25.eq = true → EqOk Tryz.prog 25 ty25 := fun h => by cases h
theorem tok26 : TyOk Tryz.prog 26 ty26 := tyOk_of Tryz.underlying26 Tryz.type26 (by decide +kernel) rfl rfl
theorem eok26 : ty26.eq = true → EqOk Tryz.prog 26 ty26 := fun h => by cases h
theorem tok27 : TyOk Tryz.prog 27 ty27 := tyOk_of Tryz.underlying27 Tryz.type27 (by decide +kernel) rfl rfl
theorem eok27 : ty27.eq = true → EqOk Tryz.prog 27 ty27 := fun h => by cases h
theorem tok28 : TyOk Tryz.prog 28 ty28 := tyOk_of Tryz.underlying28 Tryz.type28 (by decide +kernel) rfl rfl
theorem eok28 : ty28.eq = true → EqOk Tryz.prog 28 ty28 := fun h => by cases h
theorem tok30 : TyOk Tryz.prog 30 ty30 := tyOk_of Tryz.underlying30 Tryz.type30 (by decide +kernel) rfl rfl
theorem eok30 : ty30.eq = true → EqOk Tryz.prog 30 ty30 := fun h => by cases h
theorem tok31 : TyOk Tryz.prog 31 ty31 := tyOk_of Tryz.underlying31 Tryz.type31 (by decide +kernel) rfl rfl
theorem eok31 : ty31.eq = true → EqOk Tryz.prog 31 ty31 := fun _ => eqOk_of Tryz.eqGuardType31 (by decide +kernel)
theorem tok32 : TyOk Tryz.prog 32 ty32 := tyOk_of Tryz.underlying32 Tryz.type32 (by decide +kernel) rfl rfl
theorem eok32 : ty32.eq = true → EqOk Tryz.prog 32 ty32 := fun _ => eqOk_of Tryz.eqGuardType32 (by decide +kernel)
theorem tok33 : TyOk Tryz.prog 33 ty33 := tyOk_of Tryz.underlying33 Tryz.type33 (by decide +kernel) rfl rfl
theorem eok33 : ty33.eq = true → EqOk Tryz.prog 33 ty33 := fun _ => eqOk_of Tryz.eqGuardType33 (by decide +kernel)
theorem tok34 : TyOk Tryz.prog 34 ty34 := tyOk_of Tryz.underlying34 Tryz.type34 (by decide +kernel) rfl rfl
theorem eok34 : ty34.eq = true → EqOk Tryz.prog 34 ty34 := fun _ => eqOk_of Tryz.eqGuardType34 (by decide +kernel)
theorem tok35 : TyOk Tryz.prog 35 ty35 := tyOk_of Tryz.underlying35 Tryz.type35 (by decide +kernel) rfl rfl
theorem eok35 : ty35.eq = true → EqOk Tryz.prog 35 ty35 := fun _ => eqOk_of Tryz.eqGuardType35 (by decide +kernel)
theorem tok36 : TyOk Tryz.prog 36 ty36 := tyOk_of Tryz.underlying36 Tryz.type36 (by decide +kernel) rfl rfl
theorem eok36 : ty36.eq = true → EqOk Tryz.prog 36 ty36 := fun _ => eqOk_of Tryz.eqGuardType36 (by decide +kernel)
theorem tok38 : TyOk Tryz.prog 38 ty38 := tyOk_of Tryz.underlying38 Tryz.type38 (by decide +kernel) rfl rfl
theorem eok38 : ty38.eq = true → EqOk Tryz.prog 38 ty38 := fun h => by cases h
theorem tok39 : TyOk Tryz.prog 39 ty39 := tyOk_of Tryz.underlying39 Tryz.type39 (by decide +kernel) rfl rfl
theorem eok39 : ty39.eq = true → EqOk Tryz.prog 39 ty39 := fun h => by cases h
theorem tok40 : TyOk Tryz.prog 40 ty40 := tyOk_of Tryz.underlying40 Tryz.type40 (by decide +kernel) rfl rfl
theorem eok40 : ty40.eq = true → EqOk Tryz.prog 40 ty40 := fun h => by cases h
theorem tok41 : TyOk Tryz.prog 41 ty41 := tyOk_of Tryz.underlying41 Tryz.type41 (by decide +kernel) rfl rfl
theorem eok41 : ty41.eq = true → EqOk Tryz.prog 41 ty41 := fun _ => eqOk_of Tryz.eqGuardType41 (by decide +kernel)
theorem tok42 : TyOk Tryz.prog 42 ty42 := tyOk_of Tryz.underlying42 Tryz.type42 (by decide +kernel) rfl rfl
theorem eok42 : ty42.eq = true → EqOk Tryz.prog 42 ty42 := fun _ => eqOk_of Tryz.eqGuardType42 (by decide +kernel)
theorem tok43 : TyOk Tryz.prog 43 ty43 := tyOk_of Tryz.underlying43 Tryz.type43 (by decide +kernel) rfl rfl
theorem eok43 : ty43.eq = true → EqOk Tryz.prog 43 ty43 := fun _ => eqOk_of Tryz.eqGuardType43 (by decide +kernel)
theorem tok44 : TyOk Tryz.prog 44 ty44 := tyOk_of Tryz.underlying44 Tryz.type44 (by decide +kernel) rfl rfl
theorem eok44 : ty44.eq = true → EqOk Tryz.prog 44 ty44 := fun h => by cases h
theorem tok45 : TyOk Tryz.prog 45 ty45 := tyOk_of Tryz.underlying45 Tryz.type45 (by decide +kernel) rfl rfl
theorem eok45 : ty45.eq = true → EqOk Tryz.prog 45 ty45 := fun h => by cases h
theorem tok46 : TyOk Tryz.prog 46 ty46 := tyOk_of Tryz.underlying46 Tryz.type46 (by decide +kernel) rfl rfl
theorem eok46 : ty46.eq = true → EqOk Tryz.prog 46 ty46 := fun h => by cases h
theorem tok47 : TyOk Tryz.prog 47 ty47 := tyOk_of Tryz.underlying47 Tryz.type47 (by decide +kernel) rfl rfl
theorem eok47 : ty47.eq = true → EqOk Tryz.prog 47 ty47 := fun h => by cases h
theorem tok48 : TyOk Tryz.prog 48 ty48 := tyOk_of Tryz.underlying48 Tryz.type48 (by decide +kernel) rfl rfl
theorem eok48 : ty48.eq = true → EqOk Tryz.prog 48 ty48 := fun h => by cases h
theorem tok49 : TyOk Tryz.prog 49 ty49 := tyOk_of Tryz.underlying49 Tryz.type49 (by decide +kernel) rfl rfl
theorem eok49 : ty49.eq = true → EqOk Tryz.prog 49 ty49 := fun h => by cases h
theorem tok50 : TyOk Tryz.prog 50 ty50 := tyOk_of Tryz.underlying50 Tryz.type50 (by decide +kernel) rfl rfl
theorem eok50 : ty50.eq = true → EqOk Tryz.prog 50 ty50 := fun h => by cases h
theorem tok51 : TyOk Tryz.prog 51 ty51 := tyOk_of Tryz.underlying51 Tryz.type51 (by decide +kernel) rfl rfl
theorem eok51 : ty51.eq = true → EqOk Tryz.prog 51 ty51 := fun h => by cases h
theorem tok52 : TyOk Tryz.prog 52 ty52 := tyOk_of Tryz.underlying52 Tryz.type52 (by decide +kernel) rfl rfl
theorem eok52 : ty52.eq = true → EqOk Tryz.prog 52 ty52 := fun h => by cases h
theorem tok53 : TyOk Tryz.prog 53 ty53 := tyOk_of Tryz.underlying53 Tryz.type53 (by decide +kernel) rfl rfl
theorem eok53 : ty53.eq = true → EqOk Tryz.prog 53 ty53 := fun h => by cases h
theorem tok54 : TyOk Tryz.prog 54 ty54 := tyOk_of Tryz.underlying54 Tryz.type54 (by decide +kernel) rfl rfl
theorem eok54 : ty54.eq = true → EqOk Tryz.prog 54 ty54 := fun h => by cases h
theorem tok55 : TyOk Tryz.prog 55 ty55 := tyOk_of Tryz.underlying55 Tryz.type55 (by decide +kernel) rfl rfl
theorem eok55 : ty55.eq = true → EqOk Tryz.prog 55 ty55 := fun h => by cases h
theorem tok56 : TyOk Tryz.prog 56 ty56 := tyOk_of Tryz.underlying56 Tryz.type56 (by decide +kernel) rfl rfl
theorem eok56 : ty56.eq = true → EqOk Tryz.prog 56 ty56 := fun h => by cases h
theorem tok57 : TyOk Tryz.prog 57 ty57 := tyOk_of Tryz.underlying57 Tryz.type57 (by decide +kernel) rfl rfl
theorem eok57 : ty57.eq = true → EqOk Tryz.prog 57 ty57 := fun h => by cases h
theorem tok58 : TyOk Tryz.prog 58 ty58 := tyOk_of Tryz.underlying58 Tryz.type58 (by decide +kernel) rfl rfl
theorem eok58 : ty58.eq = true → EqOk Tryz.prog 58 ty58 := fun h => by cases h
theorem tok59 : TyOk Tryz.prog 59 ty59 := tyOk_of Tryz.underlying59 Tryz.type59 (by decide +kernel) rfl rfl
theorem eok59 : ty59.eq = true → EqOk Tryz.prog 59 ty59 := fun h => by cases h
theorem tok61 : TyOk Tryz.prog 61 ty61 := tyOk_of Tryz.underlying61 Tryz.type61 (by decide +kernel) rfl rfl
theorem eok61 : ty61.eq = true → EqOk Tryz.prog 61 ty61 := fun h => by cases h
theorem tok62 : TyOk Tryz.prog 62 ty62 := tyOk_of Tryz.underlying62 Tryz.type62 (by decide +kernel) rfl rfl
theorem eok62 : ty62.eq = true → EqOk Tryz.prog 62 ty62 := fun h => by cases h
theorem tok63 : TyOk Tryz.prog 63 ty63 := tyOk_of Tryz.underlying63 Tryz.type63 (by decide +kernel) rfl rfl
theorem eok63 : ty63.eq = true → EqOk Tryz.prog 63 ty63 := fun h => by cases h
theorem tok64 : TyOk Tryz.prog 64 ty64 := tyOk_of Tryz.underlying64 Tryz.type64 (by decide +kernel) rfl rfl
theorem eok64 : ty64.eq = true → EqOk Tryz.prog 64 ty64 := fun h => by cases h
theorem tok65 : TyOk Tryz.prog 65 ty65 := tyOk_of Tryz.underlying65 Tryz.type65 (by decide +kernel) rfl rfl
theorem eok65 : ty65.eq = true → EqOk Tryz.prog 65 ty65 := fun _ => eqOk_of Tryz.eqGuardType65 (by decide +kernel)
theorem tok66 : TyOk Tryz.prog 66 ty66 := tyOk_of Tryz.underlying66 Tryz.type66 (by decide +kernel) rfl rfl
theorem eok66 : ty66.eq = true → EqOk Tryz.prog 66 ty66 := fun h => by cases h
theorem tok67 : TyOk Tryz.prog 67 ty67 := tyOk_of Tryz.underlying67 Tryz.type67 (by decide +kernel) rfl rfl
theorem eok67 : ty67.eq = true → EqOk Tryz.prog 67 ty67 := fun h => by cases h
theorem tok68 : TyOk Tryz.prog 68 ty68 := tyOk_of Tryz.underlying68 Tryz.type68 (by decide +kernel) rfl rfl
theorem eok68 : ty68.eq = true → EqOk Tryz.prog 68 ty68 := fun h => by cases h
theorem tok69 : TyOk Tryz.prog 69 ty69 := tyOk_of Tryz.underlying69 Tryz.type69 (by decide +kernel) rfl rfl
theorem eok69 : ty69.eq = true → EqOk Tryz.prog 69 ty69 := fun h => by cases h
theorem tok71 : TyOk Tryz.prog 71 ty71 := tyOk_of Tryz.underlying71 Tryz.type71 (by decide +kernel) rfl rfl
theorem eok71 : ty71.eq = true → EqOk Tryz.prog 71 ty71 := fun h => by cases h
theorem tok72 : TyOk Tryz.prog 72 ty72 := tyOk_of Tryz.underlying72 Tryz.type72 (by decide +kernel) rfl rfl
theorem eok72 : ty72.eq = true → EqOk Tryz.prog 72 ty72 := fun h => by cases h
theorem tok74 : TyOk Tryz.prog 74 ty74 := tyOk_of Tryz.underlying74 Tryz.type74 (by decide +kernel) rfl rfl
theorem eok74 : ty74.eq = true → EqOk Tryz.prog 74 ty74 := fun h => by cases h
theorem tok75 : TyOk Tryz.prog 75 ty75 := tyOk_of Tryz.underlying75 Tryz.type75 (by decide +kernel) rfl rfl
theorem eok75 : ty75.eq = true → EqOk Tryz.prog 75 ty75 := fun h => by cases h
theorem tok76 : TyOk Tryz.prog 76 ty76 := tyOk_of Tryz.underlying76 Tryz.type76 (by decide +kernel) rfl rfl
theorem eok76 : ty76.eq = true → EqOk Tryz.prog 76 ty76 := fun h => by cases h
theorem tok77 : TyOk Tryz.prog 77 ty77 := tyOk_of Tryz.underlying77 Tryz.type77 (by decide +kernel) rfl rfl
theorem eok77 : ty77.eq = true → EqOk Tryz.prog 77 ty77 := fun h => by cases h
theorem tok78 : TyOk Tryz.prog 78 ty78 := tyOk_of Tryz.underlying78 Tryz.type78 (by decide +kernel) rfl rfl
theorem eok78 : ty78.eq = true → EqOk Tryz.prog 78 ty78 := fun _ => eqOk_of Tryz.eqGuardType78 (by decide +kernel)
theorem tok79 : TyOk Tryz.prog 79 ty79 := tyOk_of Tryz.underlying79 Tryz.type79 (by decide +kernel) rfl rfl
theorem eok79 : ty79.eq = true → EqOk Tryz.prog 79 ty79 := fun _ => eqOk_of Tryz.eqGuardType79 (by decide +kernel)
theorem tok80 : TyOk Tryz.prog 80 ty80 := tyOk_of Tryz.underlying80 Tryz.type80 (by decide +kernel) rfl rfl
theorem eok80 : ty80.eq = true → EqOk Tryz.prog 80 ty80 := fun h => by cases h
theorem tok81 : TyOk Tryz.prog 81 ty81 := tyOk_of Tryz.underlying81 Tryz.type81 (by decide +kernel) rfl rfl
theorem eok81 : ty81.eq = true → EqOk Tryz.prog 81 ty81 := fun h => by cases h
theorem tok82 : TyOk Tryz.prog 82 ty82 := tyOk_of Tryz.underlying82 Tryz.type82 (by decide +kernel) rfl rfl
theorem eok82 : ty82.eq = true → EqOk Tryz.prog 82 ty82 := fun h => by cases h
theorem tok84 : TyOk Tryz.prog 84 ty84 := tyOk_of Tryz.underlying84 Tryz.type84 (by decide +kernel) rfl rfl
theorem eok84 : ty84.eq = true → EqOk Tryz.prog 84 ty84 := fun h => by cases h
theorem tok85 : TyOk Tryz.prog 85 ty85 := tyOk_of Tryz.underlying85 Tryz.type85 (by decide +kernel) rfl rfl
theorem eok85 : ty85.eq = true → EqOk Tryz.prog 85 ty85 := fun h => by cases h
theorem tok86 : TyOk Tryz.prog 86 ty86 := tyOk_of Tryz.underlying86 Tryz.type86 (by decide +kernel) rfl rfl
theorem eok86 : ty86.eq = true → EqOk Tryz.prog 86 ty86 := fun h => by cases h
theorem tok88 : TyOk Tryz.prog 88 ty88 := tyOk_of Tryz.underlying88 Tryz.type88 (by decide +kernel) rfl rfl
theorem eok88 : ty88.eq = true → EqOk Tryz.prog 88 ty88 := fun h => by cases h
theorem tok89 : TyOk Tryz.prog 89 ty89 := tyOk_of Tryz.underlying89 Tryz.type89 (by decide +kernel) rfl rfl
theorem eok89 : ty89.eq = true → EqOk Tryz.prog 89 ty89 := fun h => by cases h
theorem tok90 : TyOk Tryz.prog 90 ty90 := tyOk_of Tryz.underlying90 Tryz.type90 (by decide +kernel) rfl rfl
theorem eok90 : ty90.eq = true → EqOk Tryz.prog 90 ty90 := fun h => by cases h
theorem tok91 : TyOk Tryz.prog 91 ty91 := tyOk_of Tryz.underlying91 Tryz.type91 (by decide +kernel) rfl rfl
theorem eok91 : ty91.eq = true → EqOk Tryz.prog 91 ty91 := fun h => by cases h
theorem tok92 : TyOk Tryz.prog 92 ty92 := tyOk_of Tryz.underlying92 Tryz.type92 (by decide +kernel) rfl rfl
theorem eok92 : ty92.eq = true → EqOk Tryz.prog 92 ty92 := fun h => by cases h
theorem tok93 : TyOk Tryz.prog 93 ty93 := tyOk_of Tryz.underlying93 Tryz.type93 (by decide +kernel) rfl rfl
theorem eok93 : ty93.eq = true → EqOk Tryz.prog 93 ty93 := fun h => by cases h
theorem tok94 : TyOk Tryz.prog 94 ty94 := tyOk_of Tryz.underlying94 Tryz.type94 (by decide +kernel) rfl rfl
theorem eok94 : ty94.eq = true → EqOk Tryz.prog 94 ty94 := fun h => by cases h
theorem tok95 : TyOk Tryz.prog 95 ty95 := tyOk_of Tryz.underlying95 Tryz.type95 (by decide +kernel) rfl rfl
theorem eok95 : ty95.eq = true → EqOk Tryz.prog 95 ty95 := fun h => by cases h
theorem tok97 : TyOk Tryz.prog 97 ty97 := tyOk_of Tryz.underlying97 Tryz.type97 (by decide +kernel) rfl rfl
theorem eok97 : ty97.eq = true → EqOk Tryz.prog 97 ty97 := fun h => by cases h
theorem tok98 : TyOk Tryz.prog 98 ty98 := tyOk_of Tryz.underlying98 Tryz.type98 (by decide +kernel) rfl rfl
theorem eok98 : ty98.eq = true → EqOk Tryz.prog 98 ty98 := fun h => by cases h
theorem tok99 : TyOk Tryz.prog 99 ty99 := tyOk_of Tryz.underlying99 Tryz.type99 (by decide +kernel) rfl rfl
theorem eok99 : ty99.eq = true → EqOk Tryz.prog 99 ty99 := fun h => by cases h
theorem tok100 : TyOk Tryz.prog 100 ty100 := tyOk_of Tryz.underlying100 Tryz.type100 (by decide +kernel) rfl rfl
theorem eok100 : ty100.eq = true → EqOk Tryz.prog 100 ty100 := fun _ => eqOk_of Tryz.eqGuardType100 (by decide +kernel)
theorem tok101 : TyOk Tryz.prog 101 ty101 := tyOk_of Tryz.underlying101 Tryz.type101 (by decide +kernel) rfl rfl
theorem eok101 : ty101.eq = true → EqOk Tryz.prog 101 ty101 := fun h => by cases h
theorem tok103 : TyOk Tryz.prog 103 ty103 := tyOk_of Tryz.underlying103 Tryz.type103 (by decide +kernel) rfl rfl
theorem eok103 : ty103.eq = true → EqOk Tryz.prog 103 ty103 := fun h => by cases h
theorem tok105 : TyOk Tryz.prog 105 ty105 := tyOk_of Tryz.underlying105 Tryz.type105 (by decide +kernel) rfl rfl
theorem eok105 : ty105.eq = true → EqOk Tryz.prog 105 ty105 := fun h => by cases h
theorem tok106 : TyOk Tryz.prog 106 ty106 := tyOk_of Tryz.underlying106 Tryz.type106 (by decide +kernel) rfl rfl
theorem eok106 : ty106.eq = true → EqOk Tryz.prog 106 ty106 := fun _ => eqOk_of Tryz.eqGuardType106 (by decide +kernel)
theorem tok107 : TyOk Tryz.prog 107 ty107 := tyOk_of Tryz.underlying107 Tryz.type107 (by decide +kernel) rfl rfl
theorem eok107 : ty107.eq = true → EqOk Tryz.prog 107 ty107 := fun h => by cases h
theorem tok109 : TyOk Tryz.prog 109 ty109 := tyOk_of Tryz.underlying109 Tryz.type109 (by decide +kernel) rfl rfl
theorem eok109 : ty109.eq = true → EqOk Tryz.prog 109 ty109 := fun h => by cases h
theorem tok110 : TyOk Tryz.prog 110 ty110 := tyOk_of Tryz.underlying110 Tryz.type110 (by decide +kernel) rfl rfl
theorem eok110 : ty110.eq = true → EqOk Tryz.prog 110 ty110 := fun h => by cases h
theorem tok111 : TyOk Tryz.prog 111 ty111 := tyOk_of Tryz.underlying111 Tryz.type111 (by decide +kernel) rfl rfl
theorem eok111 : ty111.eq = true → EqOk Tryz.prog 111 ty111 := fun h => by cases h
theorem tok112 : TyOk Tryz.prog 112 ty112 := tyOk_of Tryz.underlying112 Tryz.type112 (by decide +kernel) rfl rfl
theorem eok112 : ty112.eq = true → EqOk Tryz.prog 112 ty112 := fun h => by cases h
theorem tok113 : TyOk Tryz.prog 113 ty113 := tyOk_of Tryz.underlying113 Tryz.type113 (by decide +kernel) rfl rfl
theorem eok113 : ty113.eq = true → EqOk Tryz.prog 113 ty113 := fun h => by cases h
theorem tok114 : TyOk Tryz.prog 114 ty114 := tyOk_of Tryz.underlying114 Tryz.type114 (by decide +kernel) rfl rfl
theorem eok114 : ty114.eq = true → EqOk Tryz.prog 114 ty114 := fun h => by cases h
theorem tok115 : TyOk Tryz.prog 115 ty115 := tyOk_of Tryz.underlying115 Tryz.type115 (by decide +kernel) rfl rfl
theorem eok115 : ty115.eq = true → EqOk Tryz.prog 115 ty115 := fun h => by cases h
theorem tok116 : TyOk Tryz.prog 116 ty116 := tyOk_of Tryz.underlying116 Tryz.type116 (by decide +kernel) rfl rfl
theorem eok116 : ty116.eq = true → EqOk Tryz.prog 116 ty116 := fun h => by cases h
theorem tok117 : TyOk Tryz.prog 117 ty117 := tyOk_of Tryz.underlying117 Tryz.type117 (by decide +kernel) rfl rfl
theorem eok117 : ty117.eq = true → EqOk Tryz.prog 117 ty117 := fun h => by cases h
theorem tok118 : TyOk Tryz.prog 118 ty118 := tyOk_of Tryz.underlying118 Tryz.type118 (by decide +kernel) rfl rfl
theorem eok118 : ty118.eq = true → EqOk Tryz.prog 118 ty118 := fun h => by cases h
theorem tok119 : TyOk Tryz.prog 119 ty119 := tyOk_of Tryz.underlying119 Tryz.type119 (by decide +kernel) rfl rfl
theorem eok119 : ty119.eq = true → EqOk Tryz.prog 119 ty119 := fun h => by cases h
theorem tok120 : TyOk Tryz.prog 120 ty120 := tyOk_of Tryz.underlying120 Tryz.type120 (by decide +kernel) rfl rfl
theorem eok120 : ty120.eq = true → EqOk Tryz.prog 120 ty120 := fun _ => eqOk_of Tryz.eqGuardType120 (by decide +kernel)
theorem tok121 : TyOk Tryz.prog 121 ty121 := tyOk_of Tryz.underlying121 Tryz.type121 (by decide +kernel) rfl rfl
theorem eok121 : ty121.eq = true → EqOk Tryz.prog 121 ty121 := fun _ => eqOk_of Tryz.eqGuardType121 (by decide +kernel)
theorem tok122 : TyOk Tryz.prog 122 ty122 := tyOk_of Tryz.underlying122 Tryz.type122 (by decide +kernel) rfl rfl
theorem eok122 : ty122.eq = true → EqOk Tryz.prog 122 ty122 := fun _ => eqOk_of Tryz.eqGuardType122 (by decide +kernel)
theorem tok123 : TyOk Tryz.prog 123 ty123 := tyOk_of Tryz.underlying123 Tryz.type123 (by decide +kernel) rfl rfl
theorem eok123 : ty123.eq = true → EqOk Tryz.prog 123 ty123 := fun h => by cases h
theorem tok125 : TyOk Tryz.prog 125 ty125 := tyOk_of Tryz.underlying125 Tryz.type125 (by decide +kernel) rfl rfl
theorem eok125 : ty125.eq = true → EqOk Tryz.prog 125 ty125 := fun h => by cases h
theorem tok126 : TyOk Tryz.prog 126 ty126 := tyOk_of Tryz.underlying126 Tryz.type126 (by decide +kernel) rfl rfl
theorem eok126 : ty126.eq = true → EqOk Tryz.prog 126 ty126 := fun h => by cases h
theorem tok128 : TyOk Tryz.prog 128 ty128 := tyOk_of Tryz.underlying128 Tryz.type128 (by decide +kernel) rfl rfl
theorem eok128 : ty128.eq = true → EqOk Tryz.prog 128 ty128 := fun h => by cases h
theorem tok129 : TyOk Tryz.prog 129 ty129 := tyOk_of Tryz.underlying129 Tryz.type129 (by decide +kernel) rfl rfl
theorem eok129 : ty129.eq = true → EqOk Tryz.prog 129 ty129 := fun h => by cases h
theorem tok130 : TyOk Tryz.prog 130 ty130 := tyOk_of Tryz.underlying130 Tryz.type130 (by decide +kernel) rfl rfl
theorem eok130 : ty130.eq = true → EqOk Tryz.prog 130 ty130 := fun h => by cases h
theorem tok131 : TyOk Tryz.prog 131 ty131 := tyOk_of Tryz.underlying131 Tryz.type131 (by decide +kernel) rfl rfl
theorem eok131 : ty131.eq = true → EqOk Tryz.prog 131 ty131 := fun h => by cases h
theorem tok132 : TyOk Tryz.prog 132 ty132 := tyOk_of Tryz.underlying132 Tryz.type132 (by decide +kernel) rfl rfl
theorem eok132 : ty132.eq = true → EqOk Tryz.prog 132 ty132 := fun h => by cases h
theorem tok133 : TyOk Tryz.prog 133 ty133 := tyOk_of Tryz.underlying133 Tryz.type133 (by decide +kernel) rfl rfl
theorem eok133 : ty133.eq = true → EqOk Tryz.prog 133 ty133 := fun h => by cases h
theorem tok135 : TyOk Tryz.prog 135 ty135 := tyOk_of Tryz.underlying135 Tryz.type135 (by decide +kernel) rfl rfl
theorem eok135 : ty135.eq = true → EqOk Tryz.prog 135 ty135 := fun h => by cases h
theorem tok137 : TyOk Tryz.prog 137 ty137 := tyOk_of Tryz.underlying137 Tryz.type137 (by decide +kernel) rfl rfl
theorem eok137 : ty137.eq = true → EqOk Tryz.prog 137 ty137 := fun h => by cases h
theorem tok138 : TyOk Tryz.prog 138 ty138 := tyOk_of Tryz.underlying138 Tryz.type138 (by decide +kernel) rfl rfl
theorem eok138 : ty138.eq = true → EqOk Tryz.prog 138 ty138 := fun h => by cases h
theorem tok139 : TyOk Tryz.prog 139 ty139 := tyOk_of Tryz.underlying139 Tryz.type139 (by decide +kernel) rfl rfl
theorem eok139 : ty139.eq = true → EqOk Tryz.prog 139 ty139 := fun h => by cases h
theorem tok141 : TyOk Tryz.prog 141 ty141 := tyOk_of Tryz.underlying141 Tryz.type141 (by decide +kernel) rfl rfl
theorem eok141 : ty141.eq = true → EqOk Tryz.prog 141 ty141 := fun h => by cases h
theorem tok142 : TyOk Tryz.prog 142 ty142 := tyOk_of Tryz.underlying142 Tryz.type142 (by decide +kernel) rfl rfl
theorem eok142 : ty142.eq = true → EqOk Tryz.prog 142 ty142 := fun h => by cases h
theorem tok143 : TyOk Tryz.prog 143 ty143 := tyOk_of Tryz.underlying143 Tryz.type143 (by decide +kernel) rfl rfl
theorem eok143 : ty143.eq = true → EqOk Tryz.prog 143 ty143 := fun h => by cases h
theorem tok144 : TyOk Tryz.prog 144 ty144 := tyOk_of Tryz.underlying144 Tryz.type144 (by decide +kernel) rfl rfl
theorem eok144 : ty144.eq = true → EqOk Tryz.prog 144 ty144 := fun h => by cases h
theorem tok145 : TyOk Tryz.prog 145 ty145 := tyOk_of Tryz.underlying145 Tryz.type145 (by decide +kernel) rfl rfl
theorem eok145 : ty145.eq = true → EqOk Tryz.prog 145 ty145 := fun h => by cases h
theorem tok146 : TyOk Tryz.prog 146 ty146 := tyOk_of Tryz.underlying146 Tryz.type146 (by decide +kernel) rfl rfl
theorem eok146 : ty146.eq = true → EqOk Tryz.prog 146 ty146 := fun h => by cases h
theorem tok147 : TyOk Tryz.prog 147 ty147 := tyOk_of Tryz.underlying147 Tryz.type147 (by decide +kernel) rfl rfl
theorem eok147 : ty147.eq = true → EqOk Tryz.prog 147 ty147 := fun _ => eqOk_of Tryz.eqGuardType147 (by decide +kernel)
theorem tok148 : TyOk Tryz.prog 148 ty148 := tyOk_of Tryz.underlying148 Tryz.type148 (by decide +kernel) rfl rfl
theorem eok148 : ty148.eq = true → EqOk Tryz.prog 148 ty148 := fun _ => eqOk_of Tryz.eqGuardType148 (by decide +kernel)
theorem tok149 : TyOk Tryz.prog 149 ty149 := tyOk_of Tryz.underlying149 Tryz.type149 (by decide +kernel) rfl rfl
theorem eok149 : ty149.eq = true → EqOk Tryz.prog 149 ty149 := fun h => by cases h
theorem tok151 : TyOk Tryz.prog 151 ty151 := tyOk_of Tryz.underlying151 Tryz.type151 (by decide +kernel) rfl rfl
theorem eok151 : ty151.eq = true → EqOk Tryz.prog 151 ty151 := fun h => by cases h
theorem tok152 : TyOk Tryz.prog 152 ty152 := tyOk_of Tryz.underlying152 Tryz.type152 (by decide +kernel) rfl rfl
theorem eok152 : ty152.eq = true → EqOk Tryz.prog 152 ty152 := fun h => by cases h
theorem tok153 : TyOk Tryz.prog 153 ty153 := tyOk_of Tryz.underlying153 Tryz.type153 (by decide +kernel) rfl rfl
theorem eok153 : ty153.eq = true → EqOk Tryz.prog 153 ty153 := fun h => by cases h
theorem tok154 : TyOk Tryz.prog 154 ty154 := tyOk_of Tryz.underlying154 Tryz.type154 (by decide +kernel) rfl rfl
theorem eok154 : ty154.eq = true → EqOk Tryz.prog 154 ty154 := fun h => by cases h
theorem tok155 : TyOk Tryz.prog 155 ty155 := tyOk_of Tryz.underlying155 Tryz.type155 (by decide +kernel) rfl rfl
theorem eok155 : ty155.eq = true → EqOk Tryz.prog 155 ty155 := fun h => by cases h
theorem tok156 : TyOk Tryz.prog 156 ty156 := tyOk_of Tryz.underlying156 Tryz.type156 (by decide +kernel) rfl rfl
theorem eok156 : ty156.eq = true → EqOk Tryz.prog 156 ty156 := fun h => by cases h
theorem tok157 : TyOk Tryz.prog 157 ty157 := tyOk_of Tryz.underlying157 Tryz.type157 (by decide +kernel) rfl rfl
theorem eok157 : ty157.eq = true → EqOk Tryz.prog 157 ty157 := fun h => by cases h
theorem tok159 : TyOk Tryz.prog 159 ty159 := tyOk_of Tryz.underlying159 Tryz.type159 (by decide +kernel) rfl rfl
theorem eok159 : ty159.eq = true → EqOk Tryz.prog 159 ty159 := fun h => by cases h
theorem tok160 : TyOk Tryz.prog 160 ty160 := tyOk_of Tryz.underlying160 Tryz.type160 (by decide +kernel) rfl rfl
theorem eok160 : ty160.eq = true → EqOk Tryz.prog 160 ty160 := fun h => by cases h
theorem tok161 : TyOk Tryz.prog 161 ty161 := tyOk_of Tryz.underlying161 Tryz.type161 (by decide +kernel) rfl rfl
theorem eok161 : ty161.eq = true → EqOk Tryz.prog 161 ty161 := fun h => by cases h
theorem tok162 : TyOk Tryz.prog 162 ty162 := tyOk_of Tryz.underlying162 Tryz.type162 (by decide +kernel) rfl rfl
theorem eok162 : ty162.eq = true → EqOk Tryz.prog 162 ty162 := fun h => by cases h
theorem tok163 : TyOk Tryz.prog 163 ty163 := tyOk_of Tryz.underlying163 Tryz.type163 (by decide +kernel) rfl rfl
theorem eok163 : ty163.eq = true → EqOk Tryz.prog 163 ty163 := fun h => by cases h
theorem tok164 : TyOk Tryz.prog 164 ty164 := tyOk_of Tryz.underlying164 Tryz.type164 (by decide +kernel) rfl rfl
theorem eok164 : ty164.eq = true → EqOk Tryz.prog 164 ty164 := fun h => by cases h
theorem tok165 : TyOk Tryz.prog 165 ty165 := tyOk_of Tryz.underlying165 Tryz.type165 (by decide +kernel) rfl rfl
theorem eok165 : ty165.eq = true → EqOk Tryz.prog 165 ty165 := fun h => by cases h
theorem tok166 : TyOk Tryz.prog 166 ty166 := tyOk_of Tryz.underlying166 Tryz.type166 (by decide +kernel) rfl rfl
theorem eok166 : ty166.eq = true → EqOk Tryz.prog 166 ty166 := fun h => by cases h
theorem tok168 : TyOk Tryz.prog 168 ty168 := tyOk_of Tryz.underlying168 Tryz.type168 (by decide +kernel) rfl rfl
theorem eok168 : ty168.eq = true → EqOk Tryz.prog 168 ty168 := fun h => by cases h
theorem tok169 : TyOk Tryz.prog 169 ty169 := tyOk_of Tryz.underlying169 Tryz.type169 (by decide +kernel) rfl rfl
theorem eok169 : ty169.eq = true → EqOk Tryz.prog 169 ty169 := fun h => by cases h
theorem tok170 : TyOk Tryz.prog 170 ty170 := tyOk_of Tryz.underlying170 Tryz.type170 (by decide +kernel) rfl rfl
theorem eok170 : ty170.eq = true → EqOk Tryz.prog 170 ty170 := fun h => by cases h
theorem tok171 : TyOk Tryz.prog 171 ty171 := tyOk_of Tryz.underlying171 Tryz.type171 (by decide +kernel) rfl rfl
theorem eok171 : ty171.eq = true → EqOk Tryz.prog 171 ty171 := fun h => by cases h
theorem tok172 : TyOk Tryz.prog 172 ty172 := tyOk_of Tryz.underlying172 Tryz.type172 (by decide +kernel) rfl rfl
theorem eok172 : ty172.eq = true → EqOk Tryz.prog 172 ty172 := fun h => by cases h
theorem tok173 : TyOk Tryz.prog 173 ty173 := tyOk_of Tryz.underlying173 Tryz.type173 (by decide +kernel) rfl rfl
theorem eok173 : ty173.eq = true → EqOk Tryz.prog 173 ty173 := fun h => by cases h
theorem tok174 : TyOk Tryz.prog 174 ty174 := tyOk_of Tryz.underlying174 Tryz.type174 (by decide +kernel) rfl rfl
theorem eok174 : ty174.eq = true → EqOk Tryz.prog 174 ty174 := fun h => by cases h
theorem tok175 : TyOk Tryz.prog 175 ty175 := tyOk_of Tryz.underlying175 Tryz.type175 (by decide +kernel) rfl rfl
theorem eok175 : ty175.eq = true → EqOk Tryz.prog 175 ty175 := fun h => by cases h
theorem tok176 : TyOk Tryz.prog 176 ty176 := tyOk_of Tryz.underlying176 Tryz.type176 (by decide +kernel) rfl rfl
theorem eok176 : ty176.eq = true → EqOk Tryz.prog 176 ty176 := fun h => by cases h
theorem tok177 : TyOk Tryz.prog 177 ty177 := tyOk_of Tryz.underlying177 Tryz.type177 (by decide +kernel) rfl rfl
theorem eok177 : ty177.eq = true → EqOk Tryz.prog 177 ty177 := fun h => by cases h
theorem tok178 : TyOk Tryz.prog 178 ty178 := tyOk_of Tryz.underlying178 Tryz.type178 (by decide +kernel) rfl rfl
theorem eok178 : ty178.eq = true → EqOk Tryz.prog 178 ty178 := fun h => by cases h
theorem tok179 : TyOk Tryz.prog 179 ty179 := tyOk_of Tryz.underlying179 Tryz.type179 (by decide +kernel) rfl rfl
theorem eok179 : ty179.eq = true → EqOk Tryz.prog 179 ty179 := fun h => by cases h
theorem tok180 : TyOk Tryz.prog 180 ty180 := tyOk_of Tryz.underlying180 Tryz.type180 (by decide +kernel) rfl rfl
theorem eok180 : ty180.eq = true → EqOk Tryz.prog 180 ty180 := fun h => by cases h
theorem tok181 : TyOk Tryz.prog 181 ty181 := tyOk_of Tryz.underlying181 Tryz.type181 (by decide +kernel) rfl rfl
theorem eok181 : ty181.eq = true → EqOk Tryz.prog 181 ty181 := fun h => by cases h
theorem tok182 : TyOk Tryz.prog 182 ty182 := tyOk_of Tryz.underlying182 Tryz.type182 (by decide +kernel) rfl rfl
theorem eok182 : ty182.eq = true → EqOk Tryz.prog 182 ty182 := fun h => by cases h
theorem tok183 : TyOk Tryz.prog 183 ty183 := tyOk_of Tryz.underlying183 Tryz.type183 (by decide +kernel) rfl rfl
theorem eok183 : ty183.eq = true → EqOk Tryz.prog 183 ty183 := fun h => by cases h
theorem tok184 : TyOk Tryz.prog 184 ty184 := tyOk_of Tryz.underlying184 Tryz.type184 (by decide +kernel) rfl rfl
theorem eok184 : ty184.eq = true → EqOk Tryz.prog 184 ty184 := fun _ => eqOk_of Tryz.eqGuardType184 (by decide +kernel)
theorem tok185 : TyOk Tryz.prog 185 ty185 := tyOk_of Tryz.underlying185 Tryz.type185 (by decide +kernel) rfl rfl
theorem eok185 : ty185.eq = true → EqOk Tryz.prog 185 ty185 := fun _ => eqOk_of Tryz.eqGuardType185 (by decide +kernel)
theorem tok186 : TyOk Tryz.prog 186 ty186 := tyOk_of Tryz.underlying186 Tryz.type186 (by decide +kernel) rfl rfl
theorem eok186 : ty186.eq = true → EqOk Tryz.prog 186 ty186 := fun h => by cases h
theorem tok187 : TyOk Tryz.prog 187 ty187 := tyOk_of Tryz.underlying187 Tryz.type187 (by decide +kernel) rfl rfl
theorem eok187 : ty187.eq = true → EqOk Tryz.prog 187 ty187 := fun h => by cases h
theorem tok188 : TyOk Tryz.prog 188 ty188 := tyOk_of Tryz.underlying188 Tryz.type188 (by decide +kernel) rfl rfl
theorem eok188 : ty188.eq = true → EqOk Tryz.prog 188 ty188 := fun h => by cases h
theorem tok189 : TyOk Tryz.prog 189 ty189 := tyOk_of Tryz.underlying189 Tryz.type189 (by decide +kernel) rfl rfl
theorem eok189 : ty189.eq = true → EqOk Tryz.prog 189 ty189 := fun h => by cases h
theorem tok190 : TyOk Tryz.prog 190 ty190 := tyOk_of Tryz.underlying190 Tryz.type190 (by decide +kernel) rfl rfl
theorem eok190 : ty190.eq = true → EqOk Tryz.prog 190 ty190 := fun h => by cases h
theorem tok191 : TyOk Tryz.prog 191 ty191 := tyOk_of Tryz.underlying191 Tryz.type191 (by decide +kernel) rfl rfl
theorem eok191 : ty191.eq = true → EqOk Tryz.prog 191 ty191 := fun h => by cases h
theorem tok192 : TyOk Tryz.prog 192 ty192 := tyOk_of Tryz.underlying192 Tryz.type192 (by decide +kernel) rfl rfl
theorem eok192 : ty192.eq = true → EqOk Tryz.prog 192 ty192 := fun h => by cases h
theorem tok193 : TyOk Tryz.prog 193 ty193 := tyOk_of Tryz.underlying193 Tryz.type193 (by decide +kernel) rfl rfl
theorem eok193 : ty193.eq = true → EqOk Tryz.prog 193 ty193 := fun h => by cases h
theorem tok194 : TyOk Tryz.prog 194 ty194 := tyOk_of Tryz.underlying194 Tryz.type194 (by decide +kernel) rfl rfl
theorem eok194 : ty194.eq = true → EqOk Tryz.prog 194 ty194 := fun h => by cases h
theorem tok196 : TyOk Tryz.prog 196 ty196 := tyOk_of Tryz.underlying196 Tryz.type196 (by decide +kernel) rfl rfl
theorem eok196 : ty196.eq = true → EqOk Tryz.prog 196 ty196 := fun h => by cases h
theorem tok197 : TyOk Tryz.prog 197 ty197 := tyOk_of Tryz.underlying197 Tryz.type197 (by decide +kernel) rfl rfl
theorem eok197 : ty197.eq = true → EqOk Tryz.prog 197 ty197 := fun h => by cases h
theorem tok198 : TyOk Tryz.prog 198 ty198 := tyOk_of Tryz.underlying198 Tryz.type198 (by decide +kernel) rfl rfl
theorem eok198 : ty198.eq = true → EqOk Tryz.prog 198 ty198 := fun h => by cases h
theorem tok199 : TyOk Tryz.prog 199 ty199 := tyOk_of Tryz.underlying199 Tryz.type199 (by decide +kernel) rfl rfl
theorem eok199 : ty199.eq = true → EqOk Tryz.prog 199 ty199 := fun h => by cases h
theorem tok200 : TyOk Tryz.prog 200 ty200 := tyOk_of Tryz.underlying200 Tryz.type200 (by decide +kernel) rfl rfl
theorem eok200 : ty200.eq = true → EqOk Tryz.prog 200 ty200 := fun h => by cases h
theorem tok201 : TyOk Tryz.prog 201 ty201 := tyOk_of Tryz.underlying201 Tryz.type201 (by decide +kernel) rfl rfl
theorem eok201 : ty201.eq = true → EqOk Tryz.prog 201 ty201 := fun h => by cases h
theorem tok202 : TyOk Tryz.prog 202 ty202 := tyOk_of Tryz.underlying202 Tryz.type202 (by decide +kernel) rfl rfl
theorem eok202 : ty202.eq = true → EqOk Tryz.prog 202 ty202 := fun h => by cases h
theorem tok203 : TyOk Tryz.prog 203 ty203 := tyOk_of Tryz.underlying203 Tryz.type203 (by decide +kernel) rfl rfl
theorem eok203 : ty203.eq = true → EqOk Tryz.prog 203 ty203 := fun h => by cases h
theorem tok204 : TyOk Tryz.prog 204 ty204 := tyOk_of Tryz.underlying204 Tryz.type204 (by decide +kernel) rfl rfl
theorem eok204 : ty204.eq = true → EqOk Tryz.prog 204 ty204 := fun _ => eqOk_of Tryz.eqGuardType204 (by decide +kernel)
theorem tok205 : TyOk Tryz.prog 205 ty205 := tyOk_of Tryz.underlying205 Tryz.type205 (by decide +kernel) rfl rfl
theorem eok205 : ty205.eq = true → EqOk Tryz.prog 205 ty205 := fun _ => eqOk_of Tryz.eqGuardType205 (by decide +kernel)
theorem tok207 : TyOk Tryz.prog 207 ty207 := tyOk_of Tryz.underlying207 Tryz.type207 (by decide +kernel) rfl rfl
theorem eok207 : ty207.eq = true → EqOk Tryz.prog 207 ty207 := fun h => by cases h
theorem tok208 : TyOk Tryz.prog 208 ty208 := tyOk_of Tryz.underlying208 Tryz.type208 (by decide +kernel) rfl rfl
theorem eok208 : ty208.eq = true → EqOk Tryz.prog 208 ty208 := fun h => by cases h
theorem tok209 : TyOk Tryz.prog 209 ty209 := tyOk_of Tryz.underlying209 Tryz.type209 (by decide +kernel) rfl rfl
theorem eok209 : ty209.eq = true → EqOk Tryz.prog 209 ty209 := fun h => by cases h
theorem tok210 : TyOk Tryz.prog 210 ty210 := tyOk_of Tryz.underlying210 Tryz.type210 (by decide +kernel) rfl rfl
theorem eok210 : ty210.eq = true → EqOk Tryz.prog 210 ty210 := fun h => by cases h
theorem tok212 : TyOk Tryz.prog 212 ty212 := tyOk_of Tryz.underlying212 Tryz.type212 (by decide +kernel) rfl rfl
theorem eok212 : ty212.eq = true → EqOk Tryz.prog 212 ty212 := fun h => by cases h
theorem tok213 : TyOk Tryz.prog 213 ty213 := tyOk_of Tryz.underlying213 Tryz.type213 (by decide +kernel) rfl rfl
theorem eok213 : ty213.eq = true → EqOk Tryz.prog 213 ty213 := fun h => by cases h
theorem tok214 : TyOk Tryz.prog 214 ty214 := tyOk_of Tryz.underlying214 Tryz.type214 (by decide +kernel) rfl rfl
theorem eok214 : ty214.eq = true → EqOk Tryz.prog 214 ty214 := fun h => by cases h
theorem tok215 : TyOk Tryz.prog 215 ty215 := tyOk_of Tryz.underlying215 Tryz.type215 (by decide +kernel) rfl rfl
theorem eok215 : ty215.eq = true → EqOk Tryz.prog 215 ty215 := fun h => by cases h
theorem tok216 : TyOk Tryz.prog 216 ty216 := tyOk_of Tryz.underlying216 Tryz.type216 (by decide +kernel) rfl rfl
theorem eok216 : ty216.eq = true → EqOk Tryz.prog 216 ty216 := fun h => by cases h
theorem tok217 : TyOk Tryz.prog 217 ty217 := tyOk_of Tryz.underlying217 Tryz.type217 (by decide +kernel) rfl rfl
theorem eok217 : ty217.eq = true → EqOk Tryz.prog 217 ty217 := fun h => by cases h
theorem tok218 : TyOk Tryz.prog 218 ty218 := tyOk_of Tryz.underlying218 Tryz.type218 (by decide +kernel) rfl rfl
theorem eok218 : ty218.eq = true → EqOk Tryz.prog 218 ty218 := fun h => by cases h
theorem tok219 : TyOk Tryz.prog 219 ty219 := tyOk_of Tryz.underlying219 Tryz.type219 (by decide +kernel) rfl rfl
theorem eok219 : ty219.eq = true → EqOk Tryz.prog 219 ty219 := fun h => by cases h
theorem tok223 : TyOk Tryz.prog 223 ty223 := tyOk_of Tryz.underlying223 Tryz.type223 (by decide +kernel) rfl rfl
theorem eok223 : ty223.eq = true → EqOk Tryz.prog 223 ty223 := fun h => by cases h
theorem tok224 : TyOk Tryz.prog 224 ty224 := tyOk_of Tryz.underlying224 Tryz.type224 (by decide +kernel) rfl rfl
theorem eok224 : ty224.eq = true → EqOk Tryz.prog 224 ty224 := fun h => by cases h
theorem tok225 : TyOk Tryz.prog 225 ty225 := tyOk_of Tryz.underlying225 Tryz.type225 (by decide +kernel) rfl rfl
theorem eok225 : ty225.eq = true → EqOk Tryz.prog 225 ty225 := fun h => by cases h
theorem tok226 : TyOk Tryz.prog 226 ty226 := tyOk_of Tryz.underlying226 Tryz.type226 (by decide +kernel) rfl rfl
theorem eok226 : ty226.eq = true → EqOk Tryz.prog 226 ty226 := fun h => by cases h
theorem tok227 : TyOk Tryz.prog 227 ty227 := tyOk_of Tryz.underlying227 Tryz.type227 (by decide +kernel) rfl rfl
theorem eok227 : ty227.eq = true → EqOk Tryz.prog 227 ty227 := fun h => by cases h
theorem tok228 : TyOk Tryz.prog 228 ty228 := tyOk_of Tryz.underlying228 Tryz.type228 (by decide +kernel) rfl rfl
theorem eok228 : ty228.eq = true → EqOk Tryz.prog 228 ty228 := fun h => by cases h
theorem tok229 : TyOk Tryz.prog 229 ty229 := tyOk_of Tryz.underlying229 Tryz.type229 (by decide +kernel) rfl rfl
theorem eok229 : ty229.eq = true → EqOk Tryz.prog 229 ty229 := fun h => by cases h
theorem tok230 : TyOk Tryz.prog 230 ty230 := tyOk_of Tryz.underlying230 Tryz.type230 (by decide +kernel) rfl rfl
theorem eok230 : ty230.eq = true → EqOk Tryz.prog 230 ty230 := fun h => by cases h
theorem tab_ok (t : TypeId) : AllT Tryz.prog (tyTab t) t := by
  unfold tyTab
  exact (allN (allN (allN (allN (allN (allN (allN (allL tok1 eok1) (allN (allL tok2 eok2) (allL tok3 eok3))) (allN (allL tok4 eok4) (allN (allL tok5 eok5) (allL tok6 eok6)))) (allN (allN (allL tok7 eok7) (allN (allL tok8 eok8) (allL tok9 eok9))) (allN (allL tok10 eok10) (allN (allL tok11 eok11) (allL tok12 eok12))))) (allN (allN (allN (allL tok13 eok13) (allN (allL tok14 eok14) (allL tok15 eok15))) (allN (allL tok16 eok16) (allN (allL tok17 eok17) (allL tok18 eok18)))) (allN (allN (allL tok19 eok19) (allN (allL tok20 eok20) (allL tok21 eok21))) (allN (allN (allL tok22 eok22) (allL tok23 eok23)) (allN (allL tok24 eok24) (allL tok25 eok25)))))) (allN (allN (allN (allN (allL tok26 eok26) (allN (allL tok27 eok27) (allL tok28 eok28))) (allN (allL tok30 eok30) (allN (allL tok31 eok31) (allL tok32 eok32)))) (allN (allN (allL tok33 eok33) (allN (allL tok34 eok34) (allL tok35 eok35))) (allN (allN (allL tok36 eok36) (allL tok38 eok38)) (allN (allL tok39 eok39) (allL tok40 eok40))))) (allN (allN (allN (allL tok41 eok41) (allN (allL tok42 eok42) (allL tok43 eok43))) (allN (allL tok44 eok44) (allN (allL tok45 eok45) (allL tok46 eok46)))) (allN (allN (allL tok47 eok47) (allN (allL tok48 eok48) (allL tok49 eok49))) (allN (allN (allL tok50 eok50) (allL tok51 eok51)) (allN (allL tok52 eok52) (allL tok53 eok53))))))) (allN (allN (allN (allN (allN (allL tok54 eok54) (allN (allL tok55 eok55) (allL tok56 eok56))) (allN (allL tok57 eok57) (allN (allL tok58 eok58) (allL tok59 eok59)))) (allN (allN (allL tok61 eok61) (allN (allL tok62 eok62) (allL tok63 eok63))) (allN (allL tok64 eok64) (allN (allL tok65 eok65) (allL tok66 eok66))))) (allN (allN (allN (allL tok67 eok67) (allN (allL tok68 eok68) (allL tok69 eok69))) (allN (allL tok71 eok71) (allN (allL tok72 eok72) (allL tok74 eok74)))) (allN (allN (allL tok75 eok75) (allN (allL tok76 eok76) (allL tok77 eok77))) (allN (allN (allL tok78 eok78) (allL tok79 eok79)) (allN (allL tok80 eok80) (allL tok81 eok81)))))) (allN (allN (allN (allN (allL tok82 eok82) (allN (allL tok84 eok84) (allL tok85 eok85))) (allN (allL tok86 eok86) (allN (allL tok88 eok88) (allL tok89 eok89)))) (allN (allN (allL tok90 eok90) (allN (allL tok91 eok91) (allL tok92 eok92))) (allN (allN (allL tok93 eok93) (allL tok94 eok94)) (allN (allL tok95 eok95) (allL tok97 eok97))))) (allN (allN (allN (allL tok98 eok98) (allN (allL tok99 eok99) (allL tok100 eok100))) (allN (allL tok101 eok101) (allN (allL tok103 eok103) (allL tok105 eok105)))) (allN (allN (allL tok106 eok106) (allN (allL tok107 eok107) (allL tok109 eok109))) (allN (allN (allL tok110 eok110) (allL tok111 eok111)) (allN (allL tok112 eok112) (allL tok113 eok113)))))))) (allN (allN (allN (allN (allN (allN (allL tok114 eok114) (allN (allL tok115 eok115) (allL tok116 eok116))) (allN (allL tok117 eok117) (allN (allL tok118 eok118) (allL tok119 eok119)))) (allN (allN (allL tok120 eok120) (allN (allL tok121 eok121) (allL tok122 eok122))) (allN (allL tok123 eok123) (allN (allL tok125 eok125) (allL tok126 eok126))))) (allN (allN (allN (allL tok128 eok128) (allN (allL tok129 eok129) (allL tok130 eok130))) (allN (allL tok131 eok131) (allN (allL tok132 eok132) (allL tok133 eok133)))) (allN (allN (allL tok135 eok135) (allN (allL tok137 eok137) (allL tok138 eok138))) (allN (allN (allL tok139 eok139) (allL tok141 eok141)) (allN (allL tok142 eok142) (allL tok143 eok143)))))) (allN (allN (allN (allN (allL tok144 eok144) (allN (allL tok145 eok145) (allL tok146 eok146))) (allN (allL tok147 eok147) (allN (allL tok148 eok148) (allL tok149 eok149)))) (allN (allN (allL tok151 eok151) (allN (allL tok152 eok152) (allL tok153 eok153))) (allN (allN (allL tok154 eok154) (allL tok155 eok155)) (allN (allL tok156 eok156) (allL tok157 eok157))))) (allN (allN (allN (allL tok159 eok159) (allN (allL tok160 eok160) (allL tok161 eok161))) (allN (allL tok162 eok162) (allN (allL tok163 eok163) (allL tok164 eok164)))) (allN (allN (allL tok165 eok165) (allN (allL tok166 eok166) (allL tok168 eok168))) (allN (allN (allL tok169 eok169) (allL tok170 eok170)) (allN (allL tok171 eok171) (allL tok172 eok172))))))) (allN (allN (allN (allN (allN (allL tok173 eok173) (allN (allL tok174 eok174) (allL tok175 eok175))) (allN (allL tok176 eok176) (allN (allL tok177 eok177) (allL tok178 eok178)))) (allN (allN (allL tok179 eok179) (allN (allL tok180 eok180) (allL tok181 eok181))) (allN (allN (allL tok182 eok182) (allL tok183 eok183)) (allN (allL tok184 eok184) (allL tok185 eok185))))) (allN (allN (allN (allL tok186 eok186) (allN (allL tok187 eok187) (allL tok188 eok188))) (allN (allL tok189 eok189) (allN (allL tok190 eok190) (allL tok191 eok191)))) (allN (allN (allL tok192 eok192) (allN (allL tok193 eok193) (allL tok194 eok194))) (allN (allN (allL tok196 eok196) (allL tok197 eok197)) (allN (allL tok198 eok198) (allL tok199 eok199)))))) (allN (allN (allN (allN (allL tok200 eok200) (allN (allL tok201 eok201) (allL tok202 eok202))) (allN (allL tok203 eok203) (allN (allL tok204 eok204) (allL tok205 eok205)))) (allN (allN (allL tok207 eok207) (allN (allL tok208 eok208) (allL tok209 eok209))) (allN (allN (allL tok210 eok210) (allL tok212 eok212)) (allN (allL tok213 eok213) (allL tok214 eok214))))) (allN (allN (allN (allL tok215 eok215) (allN (allL tok216 eok216) (allL tok217 eok217))) (allN (allL tok218 eok218) (allN (allL tok219 eok219) (allL tok223 eok223)))) (allN (allN (allL tok224 eok224) (allN (allL tok225 eok225) (allL tok226 eok226))) (allN (allN (allL tok227 eok227) (allL tok228 eok228)) (allN (allL tok229 eok229) (allL tok230 eok230)))))))))
end Go.Abs.R
