/- A part of the proof of ConsoleRuns: YCon0. -/
import Derived.Test.YtngchkhbhcgmhaaGreatDoorRows
import Derived.Test.YtngchkhbhcgmhaaGreatDoorAiEnd2
import Derived.KernelRfl
set_option linter.unusedVariables false
set_option linter.unusedSimpArgs false
set_option linter.unusedSectionVars false
set_option linter.unnecessarySimpa false
namespace Go.Proofs.YtngchkhbhcgmhaaGreatDoor
open Go Go.Ai
def extL : List (Nat × Ext) := [(73, .noEsc), (125, .cntStr), (211, .idxByte), (362, .overlaps), (485, .cmpStr), (517, .makeNZ 5)]
def extOf (f : Nat) : Option Ext := (extL.find? fun p => p.1 == f).map (·.2)
def memo282 : List (List AV × AV) := [([(.str 1 50)], (.tup [(.str 1 50), (.int .i64 (.ofNat 0))])), ([(.str 1 49)], (.tup [(.str 1 49), (.int .i64 (.ofNat 0))])), ([(.str 1 53)], (.tup [(.str 1 53), (.int .i64 (.ofNat 0))]))]
def memo64 : List (List AV × AV) := [([(.str 7 26232286394200411)], (.int .i64 (.negSucc 0))), ([(.str 6 102469869515099)], (.int .i64 (.negSucc 0))), ([(.str 29 1324432526096059807528959666945792044876540461920629450289520100861291)], (.int .i64 (.negSucc 0))), ([(.str 9 1719159134349939192155)], (.int .i64 (.negSucc 0))), ([(.str 0 0)], (.int .i64 (.negSucc 0))), ([(.str 8 734685067031420973)], (.int .i64 (.negSucc 0))), ([(.str 3 6107483)], (.int .i64 (.negSucc 0))), ([(.str 1 49)], (.int .i64 (.negSucc 0))), ([(.str 9 1717867151059942252635)], (.int .i64 (.negSucc 0))), ([(.str 5 400273715803)], (.int .i64 (.negSucc 0))), ([(.str 4 544044398)], (.int .i64 (.negSucc 0))), ([(.str 3 6107739)], (.int .i64 (.negSucc 0))), ([(.str 2 23899)], (.int .i64 (.negSucc 0))), ([(.str 19 2076770890980580329796839629100223205550465115)], (.int .i64 (.negSucc 0))), ([(.str 15 213542436034947520981055754890913824)], (.int .i64 (.negSucc 0))), ([(.str 14 698345555202035388877199550800930)], (.int .i64 (.negSucc 0))), ([(.str 13 821124329277949861570670781811)], (.int .i64 (.negSucc 0))), ([(.str 11 12316525406902469014611300)], (.int .i64 (.negSucc 0))), ([(.str 10 227267210756177267549540)], (.int .i64 (.negSucc 0))), ([(.str 1 91)], (.int .i64 (.negSucc 0))), ([(.str 1 53)], (.int .i64 (.negSucc 0)))]
def memo36 : List (List AV × AV) := [([(.str 0 0), (.str 1 46)], (.bool false)), ([(.str 0 0), (.str 1 45)], (.bool false)), ([(.str 1 50), (.str 1 45)], (.bool false)), ([(.str 1 49), (.str 1 45)], (.bool false)), ([(.str 1 53), (.str 1 45)], (.bool false)), ([(.str 6 102469869515099), (.str 1 34)], (.bool false)), ([(.str 5 400273715803), (.str 1 34)], (.bool false)), ([(.str 3 6107739), (.str 1 34)], (.bool false)), ([(.str 29 1324432526096059807528959666945792044876540461920629450289520100861291), (.str 1 34)], (.bool false)), ([(.str 2 32123), (.str 1 34)], (.bool false)), ([(.str 2 23899), (.str 1 34)], (.bool false)), ([(.str 14 698345555202035388877199550800930), (.str 1 34)], (.bool true)), ([(.str 10 227267210756177267549540), (.str 1 34)], (.bool false)), ([(.str 1 91), (.str 1 34)], (.bool false)), ([(.str 1 53), (.str 1 34)], (.bool false)), ([(.str 1 49), (.str 1 34)], (.bool false))]
noncomputable def ftr : Tr Func := (.nd (.nd (.nd (.nd (.nd (.nd (.nd (.nd (.nd (.nd .lf (some Tryz.f511) .lf) (some Tryz.f255) .lf) (some Tryz.f127) (.nd (.nd .lf (some Tryz.f639) .lf) (some Tryz.f383) .lf)) (some Tryz.f63) (.nd (.nd 
  (.nd .lf (some Tryz.f575) .lf) (some Tryz.f319) .lf) (some Tryz.f191) (.nd (.nd .lf (some Tryz.f703) .lf) (some Tryz.f447) .lf))) (some Tryz.f31) (.nd (.nd (.nd (.nd .lf (some Tryz.f543) .lf) (some 
  Tryz.f287) .lf) (some Tryz.f159) (.nd (.nd .lf (some Tryz.f671) .lf) (some Tryz.f415) .lf)) (some Tryz.f95) (.nd (.nd (.nd .lf (some Tryz.f607) .lf) (some Tryz.f351) .lf) (some Tryz.f223) (.nd (.nd 
  .lf (some Tryz.f735) .lf) (some Tryz.f479) .lf)))) (some Tryz.f15) (.nd (.nd (.nd (.nd (.nd .lf (some Tryz.f527) .lf) (some Tryz.f271) .lf) (some Tryz.f143) (.nd (.nd .lf (some Tryz.f655) .lf) (some 
  Tryz.f399) .lf)) (some Tryz.f79) (.nd (.nd (.nd .lf (some Tryz.f591) .lf) (some Tryz.f335) .lf) (some Tryz.f207) (.nd (.nd .lf (some Tryz.f719) .lf) (some Tryz.f463) .lf))) (some Tryz.f47) (.nd (.nd 
  (.nd (.nd .lf (some Tryz.f559) .lf) (some Tryz.f303) .lf) (some Tryz.f175) (.nd (.nd .lf (some Tryz.f687) .lf) (some Tryz.f431) .lf)) (some Tryz.f111) (.nd (.nd (.nd .lf (some Tryz.f623) .lf) (some 
  Tryz.f367) .lf) (some Tryz.f239) (.nd .lf (some Tryz.f495) .lf))))) (some Tryz.f7) (.nd (.nd (.nd (.nd (.nd (.nd .lf (some Tryz.f519) .lf) (some Tryz.f263) .lf) (some Tryz.f135) (.nd (.nd .lf (some 
  Tryz.f647) .lf) (some Tryz.f391) .lf)) (some Tryz.f71) (.nd (.nd (.nd .lf (some Tryz.f583) .lf) (some Tryz.f327) .lf) (some Tryz.f199) (.nd (.nd .lf (some Tryz.f711) .lf) (some Tryz.f455) .lf))) (some 
  Tryz.f39) (.nd (.nd (.nd (.nd .lf (some Tryz.f551) .lf) (some Tryz.f295) .lf) (some Tryz.f167) (.nd (.nd .lf (some Tryz.f679) .lf) (some Tryz.f423) .lf)) (some Tryz.f103) (.nd (.nd (.nd .lf (some 
  Tryz.f615) .lf) (some Tryz.f359) .lf) (some Tryz.f231) (.nd (.nd .lf (some Tryz.f743) .lf) (some Tryz.f487) .lf)))) (some Tryz.f23) (.nd (.nd (.nd (.nd (.nd .lf (some Tryz.f535) .lf) (some Tryz.f279) 
  .lf) (some Tryz.f151) (.nd (.nd .lf (some Tryz.f663) .lf) (some Tryz.f407) .lf)) (some Tryz.f87) (.nd (.nd (.nd .lf (some Tryz.f599) .lf) (some Tryz.f343) .lf) (some Tryz.f215) (.nd (.nd .lf (some 
  Tryz.f727) .lf) (some Tryz.f471) .lf))) (some Tryz.f55) (.nd (.nd (.nd (.nd .lf (some Tryz.f567) .lf) (some Tryz.f311) .lf) (some Tryz.f183) (.nd (.nd .lf (some Tryz.f695) .lf) (some Tryz.f439) .lf)) 
  (some Tryz.f119) (.nd (.nd (.nd .lf (some Tryz.f631) .lf) (some Tryz.f375) .lf) (some Tryz.f247) (.nd .lf (some Tryz.f503) .lf)))))) (some Tryz.f3) (.nd (.nd (.nd (.nd (.nd (.nd (.nd .lf (some 
  Tryz.f515) .lf) (some Tryz.f259) .lf) (some Tryz.f131) (.nd (.nd .lf (some Tryz.f643) .lf) (some Tryz.f387) .lf)) (some Tryz.f67) (.nd (.nd (.nd .lf (some Tryz.f579) .lf) (some Tryz.f323) .lf) (some 
  Tryz.f195) (.nd (.nd .lf (some Tryz.f707) .lf) (some Tryz.f451) .lf))) (some Tryz.f35) (.nd (.nd (.nd (.nd .lf (some Tryz.f547) .lf) (some Tryz.f291) .lf) (some Tryz.f163) (.nd (.nd .lf (some 
  Tryz.f675) .lf) (some Tryz.f419) .lf)) (some Tryz.f99) (.nd (.nd (.nd .lf (some Tryz.f611) .lf) (some Tryz.f355) .lf) (some Tryz.f227) (.nd (.nd .lf (some Tryz.f739) .lf) (some Tryz.f483) .lf)))) 
  (some Tryz.f19) (.nd (.nd (.nd (.nd (.nd .lf (some Tryz.f531) .lf) (some Tryz.f275) .lf) (some Tryz.f147) (.nd (.nd .lf (some Tryz.f659) .lf) (some Tryz.f403) .lf)) (some Tryz.f83) (.nd (.nd (.nd .lf 
  (some Tryz.f595) .lf) (some Tryz.f339) .lf) (some Tryz.f211) (.nd (.nd .lf (some Tryz.f723) .lf) (some Tryz.f467) .lf))) (some Tryz.f51) (.nd (.nd (.nd (.nd .lf (some Tryz.f563) .lf) (some Tryz.f307) 
  .lf) (some Tryz.f179) (.nd (.nd .lf (some Tryz.f691) .lf) (some Tryz.f435) .lf)) (some Tryz.f115) (.nd (.nd (.nd .lf (some Tryz.f627) .lf) (some Tryz.f371) .lf) (some Tryz.f243) (.nd .lf (some 
  Tryz.f499) .lf))))) (some Tryz.f11) (.nd (.nd (.nd (.nd (.nd (.nd .lf (some Tryz.f523) .lf) (some Tryz.f267) .lf) (some Tryz.f139) (.nd (.nd .lf (some Tryz.f651) .lf) (some Tryz.f395) .lf)) (some 
  Tryz.f75) (.nd (.nd (.nd .lf (some Tryz.f587) .lf) (some Tryz.f331) .lf) (some Tryz.f203) (.nd (.nd .lf (some Tryz.f715) .lf) (some Tryz.f459) .lf))) (some Tryz.f43) (.nd (.nd (.nd (.nd .lf (some 
  Tryz.f555) .lf) (some Tryz.f299) .lf) (some Tryz.f171) (.nd (.nd .lf (some Tryz.f683) .lf) (some Tryz.f427) .lf)) (some Tryz.f107) (.nd (.nd (.nd .lf (some Tryz.f619) .lf) (some Tryz.f363) .lf) (some 
  Tryz.f235) (.nd (.nd .lf (some Tryz.f747) .lf) (some Tryz.f491) .lf)))) (some Tryz.f27) (.nd (.nd (.nd (.nd (.nd .lf (some Tryz.f539) .lf) (some Tryz.f283) .lf) (some Tryz.f155) (.nd (.nd .lf (some 
  Tryz.f667) .lf) (some Tryz.f411) .lf)) (some Tryz.f91) (.nd (.nd (.nd .lf (some Tryz.f603) .lf) (some Tryz.f347) .lf) (some Tryz.f219) (.nd (.nd .lf (some Tryz.f731) .lf) (some Tryz.f475) .lf))) (some 
  Tryz.f59) (.nd (.nd (.nd (.nd .lf (some Tryz.f571) .lf) (some Tryz.f315) .lf) (some Tryz.f187) (.nd (.nd .lf (some Tryz.f699) .lf) (some Tryz.f443) .lf)) (some Tryz.f123) (.nd (.nd (.nd .lf (some 
  Tryz.f635) .lf) (some Tryz.f379) .lf) (some Tryz.f251) (.nd .lf (some Tryz.f507) .lf))))))) (some Tryz.f1) (.nd (.nd (.nd (.nd (.nd (.nd (.nd (.nd .lf (some Tryz.f513) .lf) (some Tryz.f257) .lf) (some 
  Tryz.f129) (.nd (.nd .lf (some Tryz.f641) .lf) (some Tryz.f385) .lf)) (some Tryz.f65) (.nd (.nd (.nd .lf (some Tryz.f577) .lf) (some Tryz.f321) .lf) (some Tryz.f193) (.nd (.nd .lf (some Tryz.f705) 
  .lf) (some Tryz.f449) .lf))) (some Tryz.f33) (.nd (.nd (.nd (.nd .lf (some Tryz.f545) .lf) (some Tryz.f289) .lf) (some Tryz.f161) (.nd (.nd .lf (some Tryz.f673) .lf) (some Tryz.f417) .lf)) (some 
  Tryz.f97) (.nd (.nd (.nd .lf (some Tryz.f609) .lf) (some Tryz.f353) .lf) (some Tryz.f225) (.nd (.nd .lf (some Tryz.f737) .lf) (some Tryz.f481) .lf)))) (some Tryz.f17) (.nd (.nd (.nd (.nd (.nd .lf 
  (some Tryz.f529) .lf) (some Tryz.f273) .lf) (some Tryz.f145) (.nd (.nd .lf (some Tryz.f657) .lf) (some Tryz.f401) .lf)) (some Tryz.f81) (.nd (.nd (.nd .lf (some Tryz.f593) .lf) (some Tryz.f337) .lf) 
  (some Tryz.f209) (.nd (.nd .lf (some Tryz.f721) .lf) (some Tryz.f465) .lf))) (some Tryz.f49) (.nd (.nd (.nd (.nd .lf (some Tryz.f561) .lf) (some Tryz.f305) .lf) (some Tryz.f177) (.nd (.nd .lf (some 
  Tryz.f689) .lf) (some Tryz.f433) .lf)) (some Tryz.f113) (.nd (.nd (.nd .lf (some Tryz.f625) .lf) (some Tryz.f369) .lf) (some Tryz.f241) (.nd .lf (some Tryz.f497) .lf))))) (some Tryz.f9) (.nd (.nd (.nd 
  (.nd (.nd (.nd .lf (some Tryz.f521) .lf) (some Tryz.f265) .lf) (some Tryz.f137) (.nd (.nd .lf (some Tryz.f649) .lf) (some Tryz.f393) .lf)) (some Tryz.f73) (.nd (.nd (.nd .lf (some Tryz.f585) .lf) 
  (some Tryz.f329) .lf) (some Tryz.f201) (.nd (.nd .lf (some Tryz.f713) .lf) (some Tryz.f457) .lf))) (some Tryz.f41) (.nd (.nd (.nd (.nd .lf (some Tryz.f553) .lf) (some Tryz.f297) .lf) (some Tryz.f169) 
  (.nd (.nd .lf (some Tryz.f681) .lf) (some Tryz.f425) .lf)) (some Tryz.f105) (.nd (.nd (.nd .lf (some Tryz.f617) .lf) (some Tryz.f361) .lf) (some Tryz.f233) (.nd (.nd .lf (some Tryz.f745) .lf) (some 
  Tryz.f489) .lf)))) (some Tryz.f25) (.nd (.nd (.nd (.nd (.nd .lf (some Tryz.f537) .lf) (some Tryz.f281) .lf) (some Tryz.f153) (.nd (.nd .lf (some Tryz.f665) .lf) (some Tryz.f409) .lf)) (some Tryz.f89) 
  (.nd (.nd (.nd .lf (some Tryz.f601) .lf) (some Tryz.f345) .lf) (some Tryz.f217) (.nd (.nd .lf (some Tryz.f729) .lf) (some Tryz.f473) .lf))) (some Tryz.f57) (.nd (.nd (.nd (.nd .lf (some Tryz.f569) 
  .lf) (some Tryz.f313) .lf) (some Tryz.f185) (.nd (.nd .lf (some Tryz.f697) .lf) (some Tryz.f441) .lf)) (some Tryz.f121) (.nd (.nd (.nd .lf (some Tryz.f633) .lf) (some Tryz.f377) .lf) (some Tryz.f249) 
  (.nd .lf (some Tryz.f505) .lf)))))) (some Tryz.f5) (.nd (.nd (.nd (.nd (.nd (.nd (.nd .lf (some Tryz.f517) .lf) (some Tryz.f261) .lf) (some Tryz.f133) (.nd (.nd .lf (some Tryz.f645) .lf) (some 
  Tryz.f389) .lf)) (some Tryz.f69) (.nd (.nd (.nd .lf (some Tryz.f581) .lf) (some Tryz.f325) .lf) (some Tryz.f197) (.nd (.nd .lf (some Tryz.f709) .lf) (some Tryz.f453) .lf))) (some Tryz.f37) (.nd (.nd 
  (.nd (.nd .lf (some Tryz.f549) .lf) (some Tryz.f293) .lf) (some Tryz.f165) (.nd (.nd .lf (some Tryz.f677) .lf) (some Tryz.f421) .lf)) (some Tryz.f101) (.nd (.nd (.nd .lf (some Tryz.f613) .lf) (some 
  Tryz.f357) .lf) (some Tryz.f229) (.nd (.nd .lf (some Tryz.f741) .lf) (some Tryz.f485) .lf)))) (some Tryz.f21) (.nd (.nd (.nd (.nd (.nd .lf (some Tryz.f533) .lf) (some Tryz.f277) .lf) (some Tryz.f149) 
  (.nd (.nd .lf (some Tryz.f661) .lf) (some Tryz.f405) .lf)) (some Tryz.f85) (.nd (.nd (.nd .lf (some Tryz.f597) .lf) (some Tryz.f341) .lf) (some Tryz.f213) (.nd (.nd .lf (some Tryz.f725) .lf) (some 
  Tryz.f469) .lf))) (some Tryz.f53) (.nd (.nd (.nd (.nd .lf (some Tryz.f565) .lf) (some Tryz.f309) .lf) (some Tryz.f181) (.nd (.nd .lf (some Tryz.f693) .lf) (some Tryz.f437) .lf)) (some Tryz.f117) (.nd 
  (.nd (.nd .lf (some Tryz.f629) .lf) (some Tryz.f373) .lf) (some Tryz.f245) (.nd .lf (some Tryz.f501) .lf))))) (some Tryz.f13) (.nd (.nd (.nd (.nd (.nd (.nd .lf (some Tryz.f525) .lf) (some Tryz.f269) 
  .lf) (some Tryz.f141) (.nd (.nd .lf (some Tryz.f653) .lf) (some Tryz.f397) .lf)) (some Tryz.f77) (.nd (.nd (.nd .lf (some Tryz.f589) .lf) (some Tryz.f333) .lf) (some Tryz.f205) (.nd (.nd .lf (some 
  Tryz.f717) .lf) (some Tryz.f461) .lf))) (some Tryz.f45) (.nd (.nd (.nd (.nd .lf (some Tryz.f557) .lf) (some Tryz.f301) .lf) (some Tryz.f173) (.nd (.nd .lf (some Tryz.f685) .lf) (some Tryz.f429) .lf)) 
  (some Tryz.f109) (.nd (.nd (.nd .lf (some Tryz.f621) .lf) (some Tryz.f365) .lf) (some Tryz.f237) (.nd (.nd .lf (some Tryz.f749) .lf) (some Tryz.f493) .lf)))) (some Tryz.f29) (.nd (.nd (.nd (.nd (.nd 
  .lf (some Tryz.f541) .lf) (some Tryz.f285) .lf) (some Tryz.f157) (.nd (.nd .lf (some Tryz.f669) .lf) (some Tryz.f413) .lf)) (some Tryz.f93) (.nd (.nd (.nd .lf (some Tryz.f605) .lf) (some Tryz.f349) 
  .lf) (some Tryz.f221) (.nd (.nd .lf (some Tryz.f733) .lf) (some Tryz.f477) .lf))) (some Tryz.f61) (.nd (.nd (.nd (.nd .lf (some Tryz.f573) .lf) (some Tryz.f317) .lf) (some Tryz.f189) (.nd (.nd .lf 
  (some Tryz.f701) .lf) (some Tryz.f445) .lf)) (some Tryz.f125) (.nd (.nd (.nd .lf (some Tryz.f637) .lf) (some Tryz.f381) .lf) (some Tryz.f253) (.nd .lf (some Tryz.f509) .lf)))))))) (some Tryz.f0) (.nd 
  (.nd (.nd (.nd (.nd (.nd (.nd (.nd (.nd .lf (some Tryz.f512) .lf) (some Tryz.f256) .lf) (some Tryz.f128) (.nd (.nd .lf (some Tryz.f640) .lf) (some Tryz.f384) .lf)) (some Tryz.f64) (.nd (.nd (.nd .lf 
  (some Tryz.f576) .lf) (some Tryz.f320) .lf) (some Tryz.f192) (.nd (.nd .lf (some Tryz.f704) .lf) (some Tryz.f448) .lf))) (some Tryz.f32) (.nd (.nd (.nd (.nd .lf (some Tryz.f544) .lf) (some Tryz.f288) 
  .lf) (some Tryz.f160) (.nd (.nd .lf (some Tryz.f672) .lf) (some Tryz.f416) .lf)) (some Tryz.f96) (.nd (.nd (.nd .lf (some Tryz.f608) .lf) (some Tryz.f352) .lf) (some Tryz.f224) (.nd (.nd .lf (some 
  Tryz.f736) .lf) (some Tryz.f480) .lf)))) (some Tryz.f16) (.nd (.nd (.nd (.nd (.nd .lf (some Tryz.f528) .lf) (some Tryz.f272) .lf) (some Tryz.f144) (.nd (.nd .lf (some Tryz.f656) .lf) (some Tryz.f400) 
  .lf)) (some Tryz.f80) (.nd (.nd (.nd .lf (some Tryz.f592) .lf) (some Tryz.f336) .lf) (some Tryz.f208) (.nd (.nd .lf (some Tryz.f720) .lf) (some Tryz.f464) .lf))) (some Tryz.f48) (.nd (.nd (.nd (.nd 
  .lf (some Tryz.f560) .lf) (some Tryz.f304) .lf) (some Tryz.f176) (.nd (.nd .lf (some Tryz.f688) .lf) (some Tryz.f432) .lf)) (some Tryz.f112) (.nd (.nd (.nd .lf (some Tryz.f624) .lf) (some Tryz.f368) 
  .lf) (some Tryz.f240) (.nd .lf (some Tryz.f496) .lf))))) (some Tryz.f8) (.nd (.nd (.nd (.nd (.nd (.nd .lf (some Tryz.f520) .lf) (some Tryz.f264) .lf) (some Tryz.f136) (.nd (.nd .lf (some Tryz.f648) 
  .lf) (some Tryz.f392) .lf)) (some Tryz.f72) (.nd (.nd (.nd .lf (some Tryz.f584) .lf) (some Tryz.f328) .lf) (some Tryz.f200) (.nd (.nd .lf (some Tryz.f712) .lf) (some Tryz.f456) .lf))) (some Tryz.f40) 
  (.nd (.nd (.nd (.nd .lf (some Tryz.f552) .lf) (some Tryz.f296) .lf) (some Tryz.f168) (.nd (.nd .lf (some Tryz.f680) .lf) (some Tryz.f424) .lf)) (some Tryz.f104) (.nd (.nd (.nd .lf (some Tryz.f616) 
  .lf) (some Tryz.f360) .lf) (some Tryz.f232) (.nd (.nd .lf (some Tryz.f744) .lf) (some Tryz.f488) .lf)))) (some Tryz.f24) (.nd (.nd (.nd (.nd (.nd .lf (some Tryz.f536) .lf) (some Tryz.f280) .lf) (some 
  Tryz.f152) (.nd (.nd .lf (some Tryz.f664) .lf) (some Tryz.f408) .lf)) (some Tryz.f88) (.nd (.nd (.nd .lf (some Tryz.f600) .lf) (some Tryz.f344) .lf) (some Tryz.f216) (.nd (.nd .lf (some Tryz.f728) 
  .lf) (some Tryz.f472) .lf))) (some Tryz.f56) (.nd (.nd (.nd (.nd .lf (some Tryz.f568) .lf) (some Tryz.f312) .lf) (some Tryz.f184) (.nd (.nd .lf (some Tryz.f696) .lf) (some Tryz.f440) .lf)) (some 
  Tryz.f120) (.nd (.nd (.nd .lf (some Tryz.f632) .lf) (some Tryz.f376) .lf) (some Tryz.f248) (.nd .lf (some Tryz.f504) .lf)))))) (some Tryz.f4) (.nd (.nd (.nd (.nd (.nd (.nd (.nd .lf (some Tryz.f516) 
  .lf) (some Tryz.f260) .lf) (some Tryz.f132) (.nd (.nd .lf (some Tryz.f644) .lf) (some Tryz.f388) .lf)) (some Tryz.f68) (.nd (.nd (.nd .lf (some Tryz.f580) .lf) (some Tryz.f324) .lf) (some Tryz.f196) 
  (.nd (.nd .lf (some Tryz.f708) .lf) (some Tryz.f452) .lf))) (some Tryz.f36) (.nd (.nd (.nd (.nd .lf (some Tryz.f548) .lf) (some Tryz.f292) .lf) (some Tryz.f164) (.nd (.nd .lf (some Tryz.f676) .lf) 
  (some Tryz.f420) .lf)) (some Tryz.f100) (.nd (.nd (.nd .lf (some Tryz.f612) .lf) (some Tryz.f356) .lf) (some Tryz.f228) (.nd (.nd .lf (some Tryz.f740) .lf) (some Tryz.f484) .lf)))) (some Tryz.f20) 
  (.nd (.nd (.nd (.nd (.nd .lf (some Tryz.f532) .lf) (some Tryz.f276) .lf) (some Tryz.f148) (.nd (.nd .lf (some Tryz.f660) .lf) (some Tryz.f404) .lf)) (some Tryz.f84) (.nd (.nd (.nd .lf (some Tryz.f596) 
  .lf) (some Tryz.f340) .lf) (some Tryz.f212) (.nd (.nd .lf (some Tryz.f724) .lf) (some Tryz.f468) .lf))) (some Tryz.f52) (.nd (.nd (.nd (.nd .lf (some Tryz.f564) .lf) (some Tryz.f308) .lf) (some 
  Tryz.f180) (.nd (.nd .lf (some Tryz.f692) .lf) (some Tryz.f436) .lf)) (some Tryz.f116) (.nd (.nd (.nd .lf (some Tryz.f628) .lf) (some Tryz.f372) .lf) (some Tryz.f244) (.nd .lf (some Tryz.f500) 
  .lf))))) (some Tryz.f12) (.nd (.nd (.nd (.nd (.nd (.nd .lf (some Tryz.f524) .lf) (some Tryz.f268) .lf) (some Tryz.f140) (.nd (.nd .lf (some Tryz.f652) .lf) (some Tryz.f396) .lf)) (some Tryz.f76) (.nd 
  (.nd (.nd .lf (some Tryz.f588) .lf) (some Tryz.f332) .lf) (some Tryz.f204) (.nd (.nd .lf (some Tryz.f716) .lf) (some Tryz.f460) .lf))) (some Tryz.f44) (.nd (.nd (.nd (.nd .lf (some Tryz.f556) .lf) 
  (some Tryz.f300) .lf) (some Tryz.f172) (.nd (.nd .lf (some Tryz.f684) .lf) (some Tryz.f428) .lf)) (some Tryz.f108) (.nd (.nd (.nd .lf (some Tryz.f620) .lf) (some Tryz.f364) .lf) (some Tryz.f236) (.nd 
  (.nd .lf (some Tryz.f748) .lf) (some Tryz.f492) .lf)))) (some Tryz.f28) (.nd (.nd (.nd (.nd (.nd .lf (some Tryz.f540) .lf) (some Tryz.f284) .lf) (some Tryz.f156) (.nd (.nd .lf (some Tryz.f668) .lf) 
  (some Tryz.f412) .lf)) (some Tryz.f92) (.nd (.nd (.nd .lf (some Tryz.f604) .lf) (some Tryz.f348) .lf) (some Tryz.f220) (.nd (.nd .lf (some Tryz.f732) .lf) (some Tryz.f476) .lf))) (some Tryz.f60) (.nd 
  (.nd (.nd (.nd .lf (some Tryz.f572) .lf) (some Tryz.f316) .lf) (some Tryz.f188) (.nd (.nd .lf (some Tryz.f700) .lf) (some Tryz.f444) .lf)) (some Tryz.f124) (.nd (.nd (.nd .lf (some Tryz.f636) .lf) 
  (some Tryz.f380) .lf) (some Tryz.f252) (.nd .lf (some Tryz.f508) .lf))))))) (some Tryz.f2) (.nd (.nd (.nd (.nd (.nd (.nd (.nd (.nd .lf (some Tryz.f514) .lf) (some Tryz.f258) .lf) (some Tryz.f130) (.nd 
  (.nd .lf (some Tryz.f642) .lf) (some Tryz.f386) .lf)) (some Tryz.f66) (.nd (.nd (.nd .lf (some Tryz.f578) .lf) (some Tryz.f322) .lf) (some Tryz.f194) (.nd (.nd .lf (some Tryz.f706) .lf) (some 
  Tryz.f450) .lf))) (some Tryz.f34) (.nd (.nd (.nd (.nd .lf (some Tryz.f546) .lf) (some Tryz.f290) .lf) (some Tryz.f162) (.nd (.nd .lf (some Tryz.f674) .lf) (some Tryz.f418) .lf)) (some Tryz.f98) (.nd 
  (.nd (.nd .lf (some Tryz.f610) .lf) (some Tryz.f354) .lf) (some Tryz.f226) (.nd (.nd .lf (some Tryz.f738) .lf) (some Tryz.f482) .lf)))) (some Tryz.f18) (.nd (.nd (.nd (.nd (.nd .lf (some Tryz.f530) 
  .lf) (some Tryz.f274) .lf) (some Tryz.f146) (.nd (.nd .lf (some Tryz.f658) .lf) (some Tryz.f402) .lf)) (some Tryz.f82) (.nd (.nd (.nd .lf (some Tryz.f594) .lf) (some Tryz.f338) .lf) (some Tryz.f210) 
  (.nd (.nd .lf (some Tryz.f722) .lf) (some Tryz.f466) .lf))) (some Tryz.f50) (.nd (.nd (.nd (.nd .lf (some Tryz.f562) .lf) (some Tryz.f306) .lf) (some Tryz.f178) (.nd (.nd .lf (some Tryz.f690) .lf) 
  (some Tryz.f434) .lf)) (some Tryz.f114) (.nd (.nd (.nd .lf (some Tryz.f626) .lf) (some Tryz.f370) .lf) (some Tryz.f242) (.nd .lf (some Tryz.f498) .lf))))) (some Tryz.f10) (.nd (.nd (.nd (.nd (.nd (.nd 
  .lf (some Tryz.f522) .lf) (some Tryz.f266) .lf) (some Tryz.f138) (.nd (.nd .lf (some Tryz.f650) .lf) (some Tryz.f394) .lf)) (some Tryz.f74) (.nd (.nd (.nd .lf (some Tryz.f586) .lf) (some Tryz.f330) 
  .lf) (some Tryz.f202) (.nd (.nd .lf (some Tryz.f714) .lf) (some Tryz.f458) .lf))) (some Tryz.f42) (.nd (.nd (.nd (.nd .lf (some Tryz.f554) .lf) (some Tryz.f298) .lf) (some Tryz.f170) (.nd (.nd .lf 
  (some Tryz.f682) .lf) (some Tryz.f426) .lf)) (some Tryz.f106) (.nd (.nd (.nd .lf (some Tryz.f618) .lf) (some Tryz.f362) .lf) (some Tryz.f234) (.nd (.nd .lf (some Tryz.f746) .lf) (some Tryz.f490) 
  .lf)))) (some Tryz.f26) (.nd (.nd (.nd (.nd (.nd .lf (some Tryz.f538) .lf) (some Tryz.f282) .lf) (some Tryz.f154) (.nd (.nd .lf (some Tryz.f666) .lf) (some Tryz.f410) .lf)) (some Tryz.f90) (.nd (.nd 
  (.nd .lf (some Tryz.f602) .lf) (some Tryz.f346) .lf) (some Tryz.f218) (.nd (.nd .lf (some Tryz.f730) .lf) (some Tryz.f474) .lf))) (some Tryz.f58) (.nd (.nd (.nd (.nd .lf (some Tryz.f570) .lf) (some 
  Tryz.f314) .lf) (some Tryz.f186) (.nd (.nd .lf (some Tryz.f698) .lf) (some Tryz.f442) .lf)) (some Tryz.f122) (.nd (.nd (.nd .lf (some Tryz.f634) .lf) (some Tryz.f378) .lf) (some Tryz.f250) (.nd .lf 
  (some Tryz.f506) .lf)))))) (some Tryz.f6) (.nd (.nd (.nd (.nd (.nd (.nd (.nd .lf (some Tryz.f518) .lf) (some Tryz.f262) .lf) (some Tryz.f134) (.nd (.nd .lf (some Tryz.f646) .lf) (some Tryz.f390) .lf)) 
  (some Tryz.f70) (.nd (.nd (.nd .lf (some Tryz.f582) .lf) (some Tryz.f326) .lf) (some Tryz.f198) (.nd (.nd .lf (some Tryz.f710) .lf) (some Tryz.f454) .lf))) (some Tryz.f38) (.nd (.nd (.nd (.nd .lf 
  (some Tryz.f550) .lf) (some Tryz.f294) .lf) (some Tryz.f166) (.nd (.nd .lf (some Tryz.f678) .lf) (some Tryz.f422) .lf)) (some Tryz.f102) (.nd (.nd (.nd .lf (some Tryz.f614) .lf) (some Tryz.f358) .lf) 
  (some Tryz.f230) (.nd (.nd .lf (some Tryz.f742) .lf) (some Tryz.f486) .lf)))) (some Tryz.f22) (.nd (.nd (.nd (.nd (.nd .lf (some Tryz.f534) .lf) (some Tryz.f278) .lf) (some Tryz.f150) (.nd (.nd .lf 
  (some Tryz.f662) .lf) (some Tryz.f406) .lf)) (some Tryz.f86) (.nd (.nd (.nd .lf (some Tryz.f598) .lf) (some Tryz.f342) .lf) (some Tryz.f214) (.nd (.nd .lf (some Tryz.f726) .lf) (some Tryz.f470) .lf))) 
  (some Tryz.f54) (.nd (.nd (.nd (.nd .lf (some Tryz.f566) .lf) (some Tryz.f310) .lf) (some Tryz.f182) (.nd (.nd .lf (some Tryz.f694) .lf) (some Tryz.f438) .lf)) (some Tryz.f118) (.nd (.nd (.nd .lf 
  (some Tryz.f630) .lf) (some Tryz.f374) .lf) (some Tryz.f246) (.nd .lf (some Tryz.f502) .lf))))) (some Tryz.f14) (.nd (.nd (.nd (.nd (.nd (.nd .lf (some Tryz.f526) .lf) (some Tryz.f270) .lf) (some 
  Tryz.f142) (.nd (.nd .lf (some Tryz.f654) .lf) (some Tryz.f398) .lf)) (some Tryz.f78) (.nd (.nd (.nd .lf (some Tryz.f590) .lf) (some Tryz.f334) .lf) (some Tryz.f206) (.nd (.nd .lf (some Tryz.f718) 
  .lf) (some Tryz.f462) .lf))) (some Tryz.f46) (.nd (.nd (.nd (.nd .lf (some Tryz.f558) .lf) (some Tryz.f302) .lf) (some Tryz.f174) (.nd (.nd .lf (some Tryz.f686) .lf) (some Tryz.f430) .lf)) (some 
  Tryz.f110) (.nd (.nd (.nd .lf (some Tryz.f622) .lf) (some Tryz.f366) .lf) (some Tryz.f238) (.nd (.nd .lf (some Tryz.f750) .lf) (some Tryz.f494) .lf)))) (some Tryz.f30) (.nd (.nd (.nd (.nd (.nd .lf 
  (some Tryz.f542) .lf) (some Tryz.f286) .lf) (some Tryz.f158) (.nd (.nd .lf (some Tryz.f670) .lf) (some Tryz.f414) .lf)) (some Tryz.f94) (.nd (.nd (.nd .lf (some Tryz.f606) .lf) (some Tryz.f350) .lf) 
  (some Tryz.f222) (.nd (.nd .lf (some Tryz.f734) .lf) (some Tryz.f478) .lf))) (some Tryz.f62) (.nd (.nd (.nd (.nd .lf (some Tryz.f574) .lf) (some Tryz.f318) .lf) (some Tryz.f190) (.nd (.nd .lf (some 
  Tryz.f702) .lf) (some Tryz.f446) .lf)) (some Tryz.f126) (.nd (.nd (.nd .lf (some Tryz.f638) .lf) (some Tryz.f382) .lf) (some Tryz.f254) (.nd .lf (some Tryz.f510) .lf))))))))) 
noncomputable def ttr : Tr TypeInfo := (.nd (.nd (.nd (.nd (.nd (.nd (.nd (.nd (.nd (.nd .lf (some Tryz.t511) .lf) (some Tryz.t255) .lf) (some Tryz.t127) (.nd (.nd .lf (some Tryz.t639) .lf) (some Tryz.t383) .lf)) (some Tryz.t63) (.nd (.nd 
  (.nd .lf (some Tryz.t575) .lf) (some Tryz.t319) .lf) (some Tryz.t191) (.nd .lf (some Tryz.t447) .lf))) (some Tryz.t31) (.nd (.nd (.nd (.nd .lf (some Tryz.t543) .lf) (some Tryz.t287) .lf) (some 
  Tryz.t159) (.nd (.nd .lf (some Tryz.t671) .lf) (some Tryz.t415) .lf)) (some Tryz.t95) (.nd (.nd (.nd .lf (some Tryz.t607) .lf) (some Tryz.t351) .lf) (some Tryz.t223) (.nd .lf (some Tryz.t479) .lf)))) 
  (some Tryz.t15) (.nd (.nd (.nd (.nd (.nd .lf (some Tryz.t527) .lf) (some Tryz.t271) .lf) (some Tryz.t143) (.nd (.nd .lf (some Tryz.t655) .lf) (some Tryz.t399) .lf)) (some Tryz.t79) (.nd (.nd (.nd .lf 
  (some Tryz.t591) .lf) (some Tryz.t335) .lf) (some Tryz.t207) (.nd .lf (some Tryz.t463) .lf))) (some Tryz.t47) (.nd (.nd (.nd (.nd .lf (some Tryz.t559) .lf) (some Tryz.t303) .lf) (some Tryz.t175) (.nd 
  .lf (some Tryz.t431) .lf)) (some Tryz.t111) (.nd (.nd (.nd .lf (some Tryz.t623) .lf) (some Tryz.t367) .lf) (some Tryz.t239) (.nd .lf (some Tryz.t495) .lf))))) (some Tryz.t7) (.nd (.nd (.nd (.nd (.nd 
  (.nd .lf (some Tryz.t519) .lf) (some Tryz.t263) .lf) (some Tryz.t135) (.nd (.nd .lf (some Tryz.t647) .lf) (some Tryz.t391) .lf)) (some Tryz.t71) (.nd (.nd (.nd .lf (some Tryz.t583) .lf) (some 
  Tryz.t327) .lf) (some Tryz.t199) (.nd .lf (some Tryz.t455) .lf))) (some Tryz.t39) (.nd (.nd (.nd (.nd .lf (some Tryz.t551) .lf) (some Tryz.t295) .lf) (some Tryz.t167) (.nd (.nd .lf (some Tryz.t679) 
  .lf) (some Tryz.t423) .lf)) (some Tryz.t103) (.nd (.nd (.nd .lf (some Tryz.t615) .lf) (some Tryz.t359) .lf) (some Tryz.t231) (.nd .lf (some Tryz.t487) .lf)))) (some Tryz.t23) (.nd (.nd (.nd (.nd (.nd 
  .lf (some Tryz.t535) .lf) (some Tryz.t279) .lf) (some Tryz.t151) (.nd (.nd .lf (some Tryz.t663) .lf) (some Tryz.t407) .lf)) (some Tryz.t87) (.nd (.nd (.nd .lf (some Tryz.t599) .lf) (some Tryz.t343) 
  .lf) (some Tryz.t215) (.nd .lf (some Tryz.t471) .lf))) (some Tryz.t55) (.nd (.nd (.nd (.nd .lf (some Tryz.t567) .lf) (some Tryz.t311) .lf) (some Tryz.t183) (.nd .lf (some Tryz.t439) .lf)) (some 
  Tryz.t119) (.nd (.nd (.nd .lf (some Tryz.t631) .lf) (some Tryz.t375) .lf) (some Tryz.t247) (.nd .lf (some Tryz.t503) .lf)))))) (some Tryz.t3) (.nd (.nd (.nd (.nd (.nd (.nd (.nd .lf (some Tryz.t515) 
  .lf) (some Tryz.t259) .lf) (some Tryz.t131) (.nd (.nd .lf (some Tryz.t643) .lf) (some Tryz.t387) .lf)) (some Tryz.t67) (.nd (.nd (.nd .lf (some Tryz.t579) .lf) (some Tryz.t323) .lf) (some Tryz.t195) 
  (.nd .lf (some Tryz.t451) .lf))) (some Tryz.t35) (.nd (.nd (.nd (.nd .lf (some Tryz.t547) .lf) (some Tryz.t291) .lf) (some Tryz.t163) (.nd (.nd .lf (some Tryz.t675) .lf) (some Tryz.t419) .lf)) (some 
  Tryz.t99) (.nd (.nd (.nd .lf (some Tryz.t611) .lf) (some Tryz.t355) .lf) (some Tryz.t227) (.nd .lf (some Tryz.t483) .lf)))) (some Tryz.t19) (.nd (.nd (.nd (.nd (.nd .lf (some Tryz.t531) .lf) (some 
  Tryz.t275) .lf) (some Tryz.t147) (.nd (.nd .lf (some Tryz.t659) .lf) (some Tryz.t403) .lf)) (some Tryz.t83) (.nd (.nd (.nd .lf (some Tryz.t595) .lf) (some Tryz.t339) .lf) (some Tryz.t211) (.nd .lf 
  (some Tryz.t467) .lf))) (some Tryz.t51) (.nd (.nd (.nd (.nd .lf (some Tryz.t563) .lf) (some Tryz.t307) .lf) (some Tryz.t179) (.nd .lf (some Tryz.t435) .lf)) (some Tryz.t115) (.nd (.nd (.nd .lf (some 
  Tryz.t627) .lf) (some Tryz.t371) .lf) (some Tryz.t243) (.nd .lf (some Tryz.t499) .lf))))) (some Tryz.t11) (.nd (.nd (.nd (.nd (.nd (.nd .lf (some Tryz.t523) .lf) (some Tryz.t267) .lf) (some Tryz.t139) 
  (.nd (.nd .lf (some Tryz.t651) .lf) (some Tryz.t395) .lf)) (some Tryz.t75) (.nd (.nd (.nd .lf (some Tryz.t587) .lf) (some Tryz.t331) .lf) (some Tryz.t203) (.nd .lf (some Tryz.t459) .lf))) (some 
  Tryz.t43) (.nd (.nd (.nd (.nd .lf (some Tryz.t555) .lf) (some Tryz.t299) .lf) (some Tryz.t171) (.nd (.nd .lf (some Tryz.t683) .lf) (some Tryz.t427) .lf)) (some Tryz.t107) (.nd (.nd (.nd .lf (some 
  Tryz.t619) .lf) (some Tryz.t363) .lf) (some Tryz.t235) (.nd .lf (some Tryz.t491) .lf)))) (some Tryz.t27) (.nd (.nd (.nd (.nd (.nd .lf (some Tryz.t539) .lf) (some Tryz.t283) .lf) (some Tryz.t155) (.nd 
  (.nd .lf (some Tryz.t667) .lf) (some Tryz.t411) .lf)) (some Tryz.t91) (.nd (.nd (.nd .lf (some Tryz.t603) .lf) (some Tryz.t347) .lf) (some Tryz.t219) (.nd .lf (some Tryz.t475) .lf))) (some Tryz.t59) 
  (.nd (.nd (.nd (.nd .lf (some Tryz.t571) .lf) (some Tryz.t315) .lf) (some Tryz.t187) (.nd .lf (some Tryz.t443) .lf)) (some Tryz.t123) (.nd (.nd (.nd .lf (some Tryz.t635) .lf) (some Tryz.t379) .lf) 
  (some Tryz.t251) (.nd .lf (some Tryz.t507) .lf))))))) (some Tryz.t1) (.nd (.nd (.nd (.nd (.nd (.nd (.nd (.nd .lf (some Tryz.t513) .lf) (some Tryz.t257) .lf) (some Tryz.t129) (.nd (.nd .lf (some 
  Tryz.t641) .lf) (some Tryz.t385) .lf)) (some Tryz.t65) (.nd (.nd (.nd .lf (some Tryz.t577) .lf) (some Tryz.t321) .lf) (some Tryz.t193) (.nd .lf (some Tryz.t449) .lf))) (some Tryz.t33) (.nd (.nd (.nd 
  (.nd .lf (some Tryz.t545) .lf) (some Tryz.t289) .lf) (some Tryz.t161) (.nd (.nd .lf (some Tryz.t673) .lf) (some Tryz.t417) .lf)) (some Tryz.t97) (.nd (.nd (.nd .lf (some Tryz.t609) .lf) (some 
  Tryz.t353) .lf) (some Tryz.t225) (.nd .lf (some Tryz.t481) .lf)))) (some Tryz.t17) (.nd (.nd (.nd (.nd (.nd .lf (some Tryz.t529) .lf) (some Tryz.t273) .lf) (some Tryz.t145) (.nd (.nd .lf (some 
  Tryz.t657) .lf) (some Tryz.t401) .lf)) (some Tryz.t81) (.nd (.nd (.nd .lf (some Tryz.t593) .lf) (some Tryz.t337) .lf) (some Tryz.t209) (.nd .lf (some Tryz.t465) .lf))) (some Tryz.t49) (.nd (.nd (.nd 
  (.nd .lf (some Tryz.t561) .lf) (some Tryz.t305) .lf) (some Tryz.t177) (.nd .lf (some Tryz.t433) .lf)) (some Tryz.t113) (.nd (.nd (.nd .lf (some Tryz.t625) .lf) (some Tryz.t369) .lf) (some Tryz.t241) 
  (.nd .lf (some Tryz.t497) .lf))))) (some Tryz.t9) (.nd (.nd (.nd (.nd (.nd (.nd .lf (some Tryz.t521) .lf) (some Tryz.t265) .lf) (some Tryz.t137) (.nd (.nd .lf (some Tryz.t649) .lf) (some Tryz.t393) 
  .lf)) (some Tryz.t73) (.nd (.nd (.nd .lf (some Tryz.t585) .lf) (some Tryz.t329) .lf) (some Tryz.t201) (.nd .lf (some Tryz.t457) .lf))) (some Tryz.t41) (.nd (.nd (.nd (.nd .lf (some Tryz.t553) .lf) 
  (some Tryz.t297) .lf) (some Tryz.t169) (.nd (.nd .lf (some Tryz.t681) .lf) (some Tryz.t425) .lf)) (some Tryz.t105) (.nd (.nd (.nd .lf (some Tryz.t617) .lf) (some Tryz.t361) .lf) (some Tryz.t233) (.nd 
  .lf (some Tryz.t489) .lf)))) (some Tryz.t25) (.nd (.nd (.nd (.nd (.nd .lf (some Tryz.t537) .lf) (some Tryz.t281) .lf) (some Tryz.t153) (.nd (.nd .lf (some Tryz.t665) .lf) (some Tryz.t409) .lf)) (some 
  Tryz.t89) (.nd (.nd (.nd .lf (some Tryz.t601) .lf) (some Tryz.t345) .lf) (some Tryz.t217) (.nd .lf (some Tryz.t473) .lf))) (some Tryz.t57) (.nd (.nd (.nd (.nd .lf (some Tryz.t569) .lf) (some 
  Tryz.t313) .lf) (some Tryz.t185) (.nd .lf (some Tryz.t441) .lf)) (some Tryz.t121) (.nd (.nd (.nd .lf (some Tryz.t633) .lf) (some Tryz.t377) .lf) (some Tryz.t249) (.nd .lf (some Tryz.t505) .lf)))))) 
  (some Tryz.t5) (.nd (.nd (.nd (.nd (.nd (.nd (.nd .lf (some Tryz.t517) .lf) (some Tryz.t261) .lf) (some Tryz.t133) (.nd (.nd .lf (some Tryz.t645) .lf) (some Tryz.t389) .lf)) (some Tryz.t69) (.nd (.nd 
  (.nd .lf (some Tryz.t581) .lf) (some Tryz.t325) .lf) (some Tryz.t197) (.nd .lf (some Tryz.t453) .lf))) (some Tryz.t37) (.nd (.nd (.nd (.nd .lf (some Tryz.t549) .lf) (some Tryz.t293) .lf) (some 
  Tryz.t165) (.nd (.nd .lf (some Tryz.t677) .lf) (some Tryz.t421) .lf)) (some Tryz.t101) (.nd (.nd (.nd .lf (some Tryz.t613) .lf) (some Tryz.t357) .lf) (some Tryz.t229) (.nd .lf (some Tryz.t485) .lf)))) 
  (some Tryz.t21) (.nd (.nd (.nd (.nd (.nd .lf (some Tryz.t533) .lf) (some Tryz.t277) .lf) (some Tryz.t149) (.nd (.nd .lf (some Tryz.t661) .lf) (some Tryz.t405) .lf)) (some Tryz.t85) (.nd (.nd (.nd .lf 
  (some Tryz.t597) .lf) (some Tryz.t341) .lf) (some Tryz.t213) (.nd .lf (some Tryz.t469) .lf))) (some Tryz.t53) (.nd (.nd (.nd (.nd .lf (some Tryz.t565) .lf) (some Tryz.t309) .lf) (some Tryz.t181) (.nd 
  .lf (some Tryz.t437) .lf)) (some Tryz.t117) (.nd (.nd (.nd .lf (some Tryz.t629) .lf) (some Tryz.t373) .lf) (some Tryz.t245) (.nd .lf (some Tryz.t501) .lf))))) (some Tryz.t13) (.nd (.nd (.nd (.nd (.nd 
  (.nd .lf (some Tryz.t525) .lf) (some Tryz.t269) .lf) (some Tryz.t141) (.nd (.nd .lf (some Tryz.t653) .lf) (some Tryz.t397) .lf)) (some Tryz.t77) (.nd (.nd (.nd .lf (some Tryz.t589) .lf) (some 
  Tryz.t333) .lf) (some Tryz.t205) (.nd .lf (some Tryz.t461) .lf))) (some Tryz.t45) (.nd (.nd (.nd (.nd .lf (some Tryz.t557) .lf) (some Tryz.t301) .lf) (some Tryz.t173) (.nd .lf (some Tryz.t429) .lf)) 
  (some Tryz.t109) (.nd (.nd (.nd .lf (some Tryz.t621) .lf) (some Tryz.t365) .lf) (some Tryz.t237) (.nd .lf (some Tryz.t493) .lf)))) (some Tryz.t29) (.nd (.nd (.nd (.nd (.nd .lf (some Tryz.t541) .lf) 
  (some Tryz.t285) .lf) (some Tryz.t157) (.nd (.nd .lf (some Tryz.t669) .lf) (some Tryz.t413) .lf)) (some Tryz.t93) (.nd (.nd (.nd .lf (some Tryz.t605) .lf) (some Tryz.t349) .lf) (some Tryz.t221) (.nd 
  .lf (some Tryz.t477) .lf))) (some Tryz.t61) (.nd (.nd (.nd (.nd .lf (some Tryz.t573) .lf) (some Tryz.t317) .lf) (some Tryz.t189) (.nd .lf (some Tryz.t445) .lf)) (some Tryz.t125) (.nd (.nd (.nd .lf 
  (some Tryz.t637) .lf) (some Tryz.t381) .lf) (some Tryz.t253) (.nd .lf (some Tryz.t509) .lf)))))))) (some Tryz.t0) (.nd (.nd (.nd (.nd (.nd (.nd (.nd (.nd (.nd .lf (some Tryz.t512) .lf) (some 
  Tryz.t256) .lf) (some Tryz.t128) (.nd (.nd .lf (some Tryz.t640) .lf) (some Tryz.t384) .lf)) (some Tryz.t64) (.nd (.nd (.nd .lf (some Tryz.t576) .lf) (some Tryz.t320) .lf) (some Tryz.t192) (.nd .lf 
  (some Tryz.t448) .lf))) (some Tryz.t32) (.nd (.nd (.nd (.nd .lf (some Tryz.t544) .lf) (some Tryz.t288) .lf) (some Tryz.t160) (.nd (.nd .lf (some Tryz.t672) .lf) (some Tryz.t416) .lf)) (some Tryz.t96) 
  (.nd (.nd (.nd .lf (some Tryz.t608) .lf) (some Tryz.t352) .lf) (some Tryz.t224) (.nd .lf (some Tryz.t480) .lf)))) (some Tryz.t16) (.nd (.nd (.nd (.nd (.nd .lf (some Tryz.t528) .lf) (some Tryz.t272) 
  .lf) (some Tryz.t144) (.nd (.nd .lf (some Tryz.t656) .lf) (some Tryz.t400) .lf)) (some Tryz.t80) (.nd (.nd (.nd .lf (some Tryz.t592) .lf) (some Tryz.t336) .lf) (some Tryz.t208) (.nd .lf (some 
  Tryz.t464) .lf))) (some Tryz.t48) (.nd (.nd (.nd (.nd .lf (some Tryz.t560) .lf) (some Tryz.t304) .lf) (some Tryz.t176) (.nd .lf (some Tryz.t432) .lf)) (some Tryz.t112) (.nd (.nd (.nd .lf (some 
  Tryz.t624) .lf) (some Tryz.t368) .lf) (some Tryz.t240) (.nd .lf (some Tryz.t496) .lf))))) (some Tryz.t8) (.nd (.nd (.nd (.nd (.nd (.nd .lf (some Tryz.t520) .lf) (some Tryz.t264) .lf) (some Tryz.t136) 
  (.nd (.nd .lf (some Tryz.t648) .lf) (some Tryz.t392) .lf)) (some Tryz.t72) (.nd (.nd (.nd .lf (some Tryz.t584) .lf) (some Tryz.t328) .lf) (some Tryz.t200) (.nd .lf (some Tryz.t456) .lf))) (some 
  Tryz.t40) (.nd (.nd (.nd (.nd .lf (some Tryz.t552) .lf) (some Tryz.t296) .lf) (some Tryz.t168) (.nd (.nd .lf (some Tryz.t680) .lf) (some Tryz.t424) .lf)) (some Tryz.t104) (.nd (.nd (.nd .lf (some 
  Tryz.t616) .lf) (some Tryz.t360) .lf) (some Tryz.t232) (.nd .lf (some Tryz.t488) .lf)))) (some Tryz.t24) (.nd (.nd (.nd (.nd (.nd .lf (some Tryz.t536) .lf) (some Tryz.t280) .lf) (some Tryz.t152) (.nd 
  (.nd .lf (some Tryz.t664) .lf) (some Tryz.t408) .lf)) (some Tryz.t88) (.nd (.nd (.nd .lf (some Tryz.t600) .lf) (some Tryz.t344) .lf) (some Tryz.t216) (.nd .lf (some Tryz.t472) .lf))) (some Tryz.t56) 
  (.nd (.nd (.nd (.nd .lf (some Tryz.t568) .lf) (some Tryz.t312) .lf) (some Tryz.t184) (.nd .lf (some Tryz.t440) .lf)) (some Tryz.t120) (.nd (.nd (.nd .lf (some Tryz.t632) .lf) (some Tryz.t376) .lf) 
  (some Tryz.t248) (.nd .lf (some Tryz.t504) .lf)))))) (some Tryz.t4) (.nd (.nd (.nd (.nd (.nd (.nd (.nd .lf (some Tryz.t516) .lf) (some Tryz.t260) .lf) (some Tryz.t132) (.nd (.nd .lf (some Tryz.t644) 
  .lf) (some Tryz.t388) .lf)) (some Tryz.t68) (.nd (.nd (.nd .lf (some Tryz.t580) .lf) (some Tryz.t324) .lf) (some Tryz.t196) (.nd .lf (some Tryz.t452) .lf))) (some Tryz.t36) (.nd (.nd (.nd (.nd .lf 
  (some Tryz.t548) .lf) (some Tryz.t292) .lf) (some Tryz.t164) (.nd (.nd .lf (some Tryz.t676) .lf) (some Tryz.t420) .lf)) (some Tryz.t100) (.nd (.nd (.nd .lf (some Tryz.t612) .lf) (some Tryz.t356) .lf) 
  (some Tryz.t228) (.nd .lf (some Tryz.t484) .lf)))) (some Tryz.t20) (.nd (.nd (.nd (.nd (.nd .lf (some Tryz.t532) .lf) (some Tryz.t276) .lf) (some Tryz.t148) (.nd (.nd .lf (some Tryz.t660) .lf) (some 
  Tryz.t404) .lf)) (some Tryz.t84) (.nd (.nd (.nd .lf (some Tryz.t596) .lf) (some Tryz.t340) .lf) (some Tryz.t212) (.nd .lf (some Tryz.t468) .lf))) (some Tryz.t52) (.nd (.nd (.nd (.nd .lf (some 
  Tryz.t564) .lf) (some Tryz.t308) .lf) (some Tryz.t180) (.nd .lf (some Tryz.t436) .lf)) (some Tryz.t116) (.nd (.nd (.nd .lf (some Tryz.t628) .lf) (some Tryz.t372) .lf) (some Tryz.t244) (.nd .lf (some 
  Tryz.t500) .lf))))) (some Tryz.t12) (.nd (.nd (.nd (.nd (.nd (.nd .lf (some Tryz.t524) .lf) (some Tryz.t268) .lf) (some Tryz.t140) (.nd (.nd .lf (some Tryz.t652) .lf) (some Tryz.t396) .lf)) (some 
  Tryz.t76) (.nd (.nd (.nd .lf (some Tryz.t588) .lf) (some Tryz.t332) .lf) (some Tryz.t204) (.nd .lf (some Tryz.t460) .lf))) (some Tryz.t44) (.nd (.nd (.nd (.nd .lf (some Tryz.t556) .lf) (some 
  Tryz.t300) .lf) (some Tryz.t172) (.nd (.nd .lf (some Tryz.t684) .lf) (some Tryz.t428) .lf)) (some Tryz.t108) (.nd (.nd (.nd .lf (some Tryz.t620) .lf) (some Tryz.t364) .lf) (some Tryz.t236) (.nd .lf 
  (some Tryz.t492) .lf)))) (some Tryz.t28) (.nd (.nd (.nd (.nd (.nd .lf (some Tryz.t540) .lf) (some Tryz.t284) .lf) (some Tryz.t156) (.nd (.nd .lf (some Tryz.t668) .lf) (some Tryz.t412) .lf)) (some 
  Tryz.t92) (.nd (.nd (.nd .lf (some Tryz.t604) .lf) (some Tryz.t348) .lf) (some Tryz.t220) (.nd .lf (some Tryz.t476) .lf))) (some Tryz.t60) (.nd (.nd (.nd (.nd .lf (some Tryz.t572) .lf) (some 
  Tryz.t316) .lf) (some Tryz.t188) (.nd .lf (some Tryz.t444) .lf)) (some Tryz.t124) (.nd (.nd (.nd .lf (some Tryz.t636) .lf) (some Tryz.t380) .lf) (some Tryz.t252) (.nd .lf (some Tryz.t508) .lf))))))) 
  (some Tryz.t2) (.nd (.nd (.nd (.nd (.nd (.nd (.nd (.nd .lf (some Tryz.t514) .lf) (some Tryz.t258) .lf) (some Tryz.t130) (.nd (.nd .lf (some Tryz.t642) .lf) (some Tryz.t386) .lf)) (some Tryz.t66) (.nd 
  (.nd (.nd .lf (some Tryz.t578) .lf) (some Tryz.t322) .lf) (some Tryz.t194) (.nd .lf (some Tryz.t450) .lf))) (some Tryz.t34) (.nd (.nd (.nd (.nd .lf (some Tryz.t546) .lf) (some Tryz.t290) .lf) (some 
  Tryz.t162) (.nd (.nd .lf (some Tryz.t674) .lf) (some Tryz.t418) .lf)) (some Tryz.t98) (.nd (.nd (.nd .lf (some Tryz.t610) .lf) (some Tryz.t354) .lf) (some Tryz.t226) (.nd .lf (some Tryz.t482) .lf)))) 
  (some Tryz.t18) (.nd (.nd (.nd (.nd (.nd .lf (some Tryz.t530) .lf) (some Tryz.t274) .lf) (some Tryz.t146) (.nd (.nd .lf (some Tryz.t658) .lf) (some Tryz.t402) .lf)) (some Tryz.t82) (.nd (.nd (.nd .lf 
  (some Tryz.t594) .lf) (some Tryz.t338) .lf) (some Tryz.t210) (.nd .lf (some Tryz.t466) .lf))) (some Tryz.t50) (.nd (.nd (.nd (.nd .lf (some Tryz.t562) .lf) (some Tryz.t306) .lf) (some Tryz.t178) (.nd 
  .lf (some Tryz.t434) .lf)) (some Tryz.t114) (.nd (.nd (.nd .lf (some Tryz.t626) .lf) (some Tryz.t370) .lf) (some Tryz.t242) (.nd .lf (some Tryz.t498) .lf))))) (some Tryz.t10) (.nd (.nd (.nd (.nd (.nd 
  (.nd .lf (some Tryz.t522) .lf) (some Tryz.t266) .lf) (some Tryz.t138) (.nd (.nd .lf (some Tryz.t650) .lf) (some Tryz.t394) .lf)) (some Tryz.t74) (.nd (.nd (.nd .lf (some Tryz.t586) .lf) (some 
  Tryz.t330) .lf) (some Tryz.t202) (.nd .lf (some Tryz.t458) .lf))) (some Tryz.t42) (.nd (.nd (.nd (.nd .lf (some Tryz.t554) .lf) (some Tryz.t298) .lf) (some Tryz.t170) (.nd (.nd .lf (some Tryz.t682) 
  .lf) (some Tryz.t426) .lf)) (some Tryz.t106) (.nd (.nd (.nd .lf (some Tryz.t618) .lf) (some Tryz.t362) .lf) (some Tryz.t234) (.nd .lf (some Tryz.t490) .lf)))) (some Tryz.t26) (.nd (.nd (.nd (.nd (.nd 
  .lf (some Tryz.t538) .lf) (some Tryz.t282) .lf) (some Tryz.t154) (.nd (.nd .lf (some Tryz.t666) .lf) (some Tryz.t410) .lf)) (some Tryz.t90) (.nd (.nd (.nd .lf (some Tryz.t602) .lf) (some Tryz.t346) 
  .lf) (some Tryz.t218) (.nd .lf (some Tryz.t474) .lf))) (some Tryz.t58) (.nd (.nd (.nd (.nd .lf (some Tryz.t570) .lf) (some Tryz.t314) .lf) (some Tryz.t186) (.nd .lf (some Tryz.t442) .lf)) (some 
  Tryz.t122) (.nd (.nd (.nd .lf (some Tryz.t634) .lf) (some Tryz.t378) .lf) (some Tryz.t250) (.nd .lf (some Tryz.t506) .lf)))))) (some Tryz.t6) (.nd (.nd (.nd (.nd (.nd (.nd (.nd .lf (some Tryz.t518) 
  .lf) (some Tryz.t262) .lf) (some Tryz.t134) (.nd (.nd .lf (some Tryz.t646) .lf) (some Tryz.t390) .lf)) (some Tryz.t70) (.nd (.nd (.nd .lf (some Tryz.t582) .lf) (some Tryz.t326) .lf) (some Tryz.t198) 
  (.nd .lf (some Tryz.t454) .lf))) (some Tryz.t38) (.nd (.nd (.nd (.nd .lf (some Tryz.t550) .lf) (some Tryz.t294) .lf) (some Tryz.t166) (.nd (.nd .lf (some Tryz.t678) .lf) (some Tryz.t422) .lf)) (some 
  Tryz.t102) (.nd (.nd (.nd .lf (some Tryz.t614) .lf) (some Tryz.t358) .lf) (some Tryz.t230) (.nd .lf (some Tryz.t486) .lf)))) (some Tryz.t22) (.nd (.nd (.nd (.nd (.nd .lf (some Tryz.t534) .lf) (some 
  Tryz.t278) .lf) (some Tryz.t150) (.nd (.nd .lf (some Tryz.t662) .lf) (some Tryz.t406) .lf)) (some Tryz.t86) (.nd (.nd (.nd .lf (some Tryz.t598) .lf) (some Tryz.t342) .lf) (some Tryz.t214) (.nd .lf 
  (some Tryz.t470) .lf))) (some Tryz.t54) (.nd (.nd (.nd (.nd .lf (some Tryz.t566) .lf) (some Tryz.t310) .lf) (some Tryz.t182) (.nd .lf (some Tryz.t438) .lf)) (some Tryz.t118) (.nd (.nd (.nd .lf (some 
  Tryz.t630) .lf) (some Tryz.t374) .lf) (some Tryz.t246) (.nd .lf (some Tryz.t502) .lf))))) (some Tryz.t14) (.nd (.nd (.nd (.nd (.nd (.nd .lf (some Tryz.t526) .lf) (some Tryz.t270) .lf) (some Tryz.t142) 
  (.nd (.nd .lf (some Tryz.t654) .lf) (some Tryz.t398) .lf)) (some Tryz.t78) (.nd (.nd (.nd .lf (some Tryz.t590) .lf) (some Tryz.t334) .lf) (some Tryz.t206) (.nd .lf (some Tryz.t462) .lf))) (some 
  Tryz.t46) (.nd (.nd (.nd (.nd .lf (some Tryz.t558) .lf) (some Tryz.t302) .lf) (some Tryz.t174) (.nd .lf (some Tryz.t430) .lf)) (some Tryz.t110) (.nd (.nd (.nd .lf (some Tryz.t622) .lf) (some 
  Tryz.t366) .lf) (some Tryz.t238) (.nd .lf (some Tryz.t494) .lf)))) (some Tryz.t30) (.nd (.nd (.nd (.nd (.nd .lf (some Tryz.t542) .lf) (some Tryz.t286) .lf) (some Tryz.t158) (.nd (.nd .lf (some 
  Tryz.t670) .lf) (some Tryz.t414) .lf)) (some Tryz.t94) (.nd (.nd (.nd .lf (some Tryz.t606) .lf) (some Tryz.t350) .lf) (some Tryz.t222) (.nd .lf (some Tryz.t478) .lf))) (some Tryz.t62) (.nd (.nd (.nd 
  (.nd .lf (some Tryz.t574) .lf) (some Tryz.t318) .lf) (some Tryz.t190) (.nd .lf (some Tryz.t446) .lf)) (some Tryz.t126) (.nd (.nd (.nd .lf (some Tryz.t638) .lf) (some Tryz.t382) .lf) (some Tryz.t254) 
  (.nd .lf (some Tryz.t510) .lf))))))))) 

set_option maxRecDepth 100000 in
theorem ftr_eq : ftr = ofL Tryz.prog.funcs.toList := by kernel_rfl
set_option maxRecDepth 100000 in
theorem ttr_eq : ttr = ofL Tryz.prog.types.toList := by kernel_rfl
theorem ftr_ok : ∀ n fn, ftr.get n = some fn → Tryz.prog.funcs[n]? = some fn := fun n fn h => by
  rw [ftr_eq] at h
  have := ofL_get h
  simpa using this
theorem ttr_ok : ∀ t i, ttr.get t = some i → Tryz.prog.info? t = some i := fun t i h => by
  rw [ttr_eq] at h
  have h1 : Tryz.prog.types[t]? = some i := by simpa using ofL_get h
  unfold Tables.info?
  rw [if_pos (Array.getElem?_eq_some_iff.1 h1).1]
  exact h1
noncomputable def E1 : Ev := ⟨Tryz.prog, { ext := extOf, prim := fun _ => none }, 100000, ftr, ttr, ftr_ok, ttr_ok⟩
def primL : List (Nat × (List AV → H → Option (ARes × H))) := [(62, idxP 0), (282, memoQ 8 memo282), (64, memoQ 8 memo64), (36, memoQ 8 memo36)]
noncomputable def E0 : Ev := ⟨Tryz.prog, { ext := extOf, prim := fun f => (primL.find? fun p => p.1 == f).map (·.2) }, 100000, ftr, ttr, ftr_ok, ttr_ok⟩
def pow10 : List AV := (List.range 20).map fun k => .int .u64 (Int.ofNat (10 ^ k))
def h0 (m : Int) : H := ((⟨8, .lf⟩ : H).put 0 (.cells (gfam 3 [.int .i64 m]))).put 1 (.cells (gfam 315 pow10))
end Go.Proofs.YtngchkhbhcgmhaaGreatDoor
