/-
  Parts of the proof: Ok25, Pa1, Pl2, Pl3, Pl5, Th1, Pl6, Pl8, Pl9, Pl10, Pl12, ThT, Pa2, Pa3, Pa4, Pa5, Pa6, Pa7, Pa8, Pa9, Pa10, Pa11, Pa12, Pa13, Pa14, Pa15, Pa16, Pa17, Pa18, Pa19, Pa20, Pa21, Pa22, Pa23, Pa24, Pa25, Pa26, Pa27, Pa28, Pa29, Pm1, Pm2, G25, Pm3, Pm4, Pm5, Pm6, Pm7: the framework (Fw), pure forms (Dn), plain laws (Pl, Th), calls of functions (Ok).
-/
import Derived.Test.YtnndjinceoekdaaGreatDoorProg
import Derived.KernelRfl
import Derived.Test.YtnndjinceoekdaaGreatDoorRows
import Derived.ProofKit
import Derived.Lib.LaidTab
import Derived.LaidMore
import Derived.Test.YtnndjinceoekdaaGreatDoorBcb0e6eda

set_option linter.all false
set_option maxHeartbeats 1000000
open _root_ renaming Int->Z,Nat->X,Bool->bA,List->bn,Option->bw,Array->bU,rfl->bo,False->b7,decide_eq_true_eq->akn,decide_eq_true->aj8,decide_eq_false->akw,of_decide_eq_true->alz,Decidable->akA,Unit->bt,and_true->ca,decide_eq_false_iff_not->anL,decide_eq_decide->akd,beq_self_eq_true->aks,cond_true->bH,if_pos->cc,cond_false->bR,if_neg->cw
open Option renaming some->Y,bind->bC,none->bq,bind_some->bM
open Go.Proofs.Tryz renaming prog->cn,func266->amB
open Nat renaming ble->b3,min_eq_left->alF,lt_or_ge->cm,le_trans->cu,and_le_left->aoH,or_lt_two_pow->aoI,and_two_pow_sub_one_eq_mod->anK,add_comm->alQ,div_add_mod->amt,two_pow_pos->alG,pow_lt_pow_right->aoK,mul_eq_zero->aoL,zero_mul->al3,div_lt_iff_lt_mul->ams,le_div_iff_mul_le->aoM,div_div_eq_div_mul->aoN,mod_lt->ak8,pow_succ->alf,mul_div_cancel->anN,mul_pos->aoQ,mul_le_mul_left->anO,pow_mul->anP,le_refl->cd,eq_of_testBit_eq->aoR,testBit_and->aoS,testBit_two_pow->anB,le_mul_of_pos_right->ao2,mul_le_mul_right->ao3,div_eq_of_lt->amN,div_le_self->amO,zero_le->ao5
open Bool renaming true->bp,false->br,true_and->alZ
open Go renaming Exit->b6,IntKind->cr,World->bD
open Go.IntKind renaming u32->cb,i64->bK,u64->bE,wrap->alD,signed->aoG,u8->anH
open List renaming range->bL,replicate->bJ,length_cons->amC,length_take->aki,take_add_one->aj5,getElem?_eq_getElem->b0,take_append_drop->alu,length_eq_zero_iff->anE,pairwise_iff_getElem->aj2,getD->akG,getElem_mem->b5,mem_singleton->cB,pairwise_lt_range->anJ,length_filter_le->aku,length_map->b9,range_succ->akp,mem_iff_getElem->ale,take_length->cy,getElem?_eq_none->al1,getElem?_take->amh,take_of_length_le->ck,getElem_set_ne->amE,length_pos_iff->amF,getElem_set_self->aoV,length_drop->anu,set_append_right->amH,drop_drop->alL,drop_eq_getElem_cons->alO,append_assoc->akZ,drop_eq_nil_of_le->anS,getElem_map->amM,length_append->akE,pairwise_append->ao4
open Int renaming le_refl->akY,lt_trans->aoF,toNat_natCast->akz,fdiv_eq_ediv_of_nonneg->aoJ,lt_or_le->alH,mul_nonneg->aoO,le_of_lt->akB,le_total->aoP,add_comm->amD,add_zero->al4,mul_le_mul_of_nonneg_right->anQ,emod_add_mul_ediv->al5,zero_add->alg,mul_lt_mul_of_pos_right->aoT,emod_emod_of_dvd->aoU,mul_emod_left->amG,ediv_lt_of_lt_mul->anR,mul_pos->alh,mul_emod_mul_of_pos->aoW,mul_zero->al6,mul_comm->alI,ediv_ediv_of_nonneg->aoX,ediv_nonneg->ali,emod_lt_of_pos->amI,ediv_le_self->amJ,pow_add->aoY,emod_nonneg->anT,le_ediv_iff_mul_le->aoZ,mul_le_mul_of_nonneg_left->ao0,lt_of_mul_lt_mul_left->anU,natAbs_neg->al7,mul_ediv_cancel->anV,zero_sub->anW,eq_ofNat_of_zero_le->cz,natAbs_natCast->amK,natAbs_mul->ao1,add_mul->al8,natAbs_add_le->amL,natCast_ediv->anX
open Option.some renaming injEq->alX
open Go.jt.ae renaming eq_iff->bN,e4->bZ,e0->bX,ag->bv,kU->cC,loop->aky,mono->cx
open Decidable renaming decide->bu,not_not->anM
open Go.jt renaming wrap64->cq
open List.Pairwise renaming filter->apB,nil->amm
open BitVec renaming ofInt->ch
open Go.World renaming cell?->ak6
open Go.jt.ai renaming size->akm
noncomputable section
namespace Go.jt
variable{a e:Z}{b d m s:X}{c f h:aj0}{g k:bA}{i q:Type}{j l:ajU}{n:Prop}{o:ew}{r:eA}
section
open Go.Proofs
open Tryz
abbrev fO:ai:=(.int .u32)
abbrev fy:ai:=(.a6 .be fO)
abbrev cU:ai:=(.st (.pr .bool (.pr fy .nil)))
abbrev aB:ai:=(.int .i64)
abbrev bi:ai:=(.st (.pr .bool (.pr cU (.pr aB .nil))))
abbrev gM:ai:=(.osl aB)
abbrev cX:ai:=(.int .u64)
abbrev wW:ai:=(.st (.pr aB (.pr aB (.pr gM (.pr gM (.pr (.osl cX) .nil))))))
abbrev gD:ai:=(.a6 .be aB)
abbrev eN:ai:=(.a6 .c7 aB)
abbrev kK:ai:=(.a6 .c7 cX)
abbrev ip:ai:=(.st (.pr aB (.pr aB (.pr eN (.pr eN (.pr kK .nil))))))
abbrev mw:ai:=(.st (.pr eN (.pr eN (.pr kK (.pr eN (.pr eN (.pr kK (.pr aB .nil))))))))
abbrev oc:ai:=(.st (.pr (.a6 .be gD) .nil))
abbrev wZ:ai:=(.st (.pr aB (.pr oc (.pr (.a6 .be (.e1 .be bi)) .nil))))
abbrev mv:ai:=(.st (.pr gD (.pr (.a6 .be cX) .nil)))
abbrev CA:ai:=(.st (.pr (.ptr .be wZ) (.pr gM (.pr gM (.pr (.osl cX) (.pr (.osl mv) (.pr aB .nil)))))))
abbrev zq:ai:=(.st (.pr gD (.pr gD (.pr (.a6 .be cX) (.pr gD (.pr gD (.pr (.a6 .be cX) (.pr aB .nil))))))))
abbrev qL:ai:=(.osl bi)
abbrev od:ai:=(.osl qL)
abbrev qI:ai:=(.pr od .nil)
abbrev oa:ai:=(.st (.pr aB (.pr aB (.pr qL .nil))))
abbrev GQ:ai:=(.st (.pr gM (.pr gM (.pr (.osl cX) (.pr gM (.pr gM (.pr (.osl cX) (.pr aB .nil))))))))
abbrev ob:ai:=(.st (.pr aB (.pr aB (.pr cX .nil))))
abbrev zp:ai:=(.osl .bool)
abbrev sf:ai:=(.optr (.st (.pr gM (.pr aB (.pr zp qI)))))
abbrev o3:ai:=(.st (.pr aB (.pr aB (.pr eN (.pr aB .nil)))))
abbrev kJ:ai:=(.ptr .c7 (.st (.pr eN (.pr aB (.pr (.a6 .c7 .bool) (.pr (.a6 .c7 (.a6 .c7 bi)) .nil))))))
abbrev GR:ai:=(.st (.pr gM (.pr (.osl cX) (.pr gD (.pr (.osl (.osl cX)) .nil)))))
abbrev GS:ai:=(.st (.pr gM (.pr gD (.pr (.a6 .be cX) (.pr gM (.pr gM (.pr (.osl cX) (.pr aB .nil))))))))
abbrev uB:ai:=(.st (.pr aB (.pr aB (.pr gD (.pr gD (.pr (.a6 .be cX) .nil))))))
abbrev Un:ai:=(.optr (.st (.pr gD (.pr aB qI))))
abbrev lE:ai:=(.st (.pr (.a6 .c7 eN) .nil))
abbrev sg:ai:=(.st (.pr cU (.pr cU .nil)))
abbrev zn:ai:=(.st (.pr aB (.pr aB (.pr aB .nil))))
abbrev GU:ai:=(.osl (.st (.pr aB (.pr aB (.pr gM (.pr aB .nil))))))
abbrev Uo:ai:=(.optr (.st (.pr gM (.pr aB qI))))
abbrev qJ:ai:=(.st (.pr eN (.pr aB (.pr (.a6 .c7 (.a6 .c7 bi)) .nil))))
abbrev wX:ai:=(.osl zp)
abbrev wY:ai:=(.st (.pr gM (.pr (.osl cX) .nil)))
abbrev nr:ai:=(.a6 .be bi)
abbrev lF:ai:=(.osl fO)
abbrev GV:ai:=(.st (.pr gD (.pr (.a6 .be cX) (.pr gD (.pr (.a6 .be (.a6 .be cX)) .nil)))))
abbrev Up:ai:=(.optr bi)
abbrev qK:ai:=(.st (.pr .bool (.pr cU (.pr aB (.pr .bool .nil)))))
abbrev GW:ai:=(.st (.pr aB (.pr aB (.pr nr .nil))))
abbrev Cv:ai:=(.ptr .be (.st (.pr gD (.pr aB (.pr (.a6 .be .bool) (.pr (.a6 .be nr) .nil))))))
abbrev Uq:ai:=(.optr wW)
abbrev Ur:ai:=(.ptr .be cU)
abbrev Cw:ai:=(.st (.pr (.osl gD) .nil))
abbrev Us:ai:=(.optr cU)
abbrev L6:ai:=(.a6 .be (.st (.pr aB (.pr aB (.pr gD (.pr aB .nil))))))
abbrev Ut:ai:=(.ptr .be bi)
abbrev pN:ai:=(.osl ob)
abbrev Uu:ai:=(.optr (.st (.pr aB (.pr oc (.pr (.osl (.mp bi)) .nil)))))
abbrev GX:ai:=(.st (.pr gD (.pr aB (.pr (.a6 .be nr) .nil))))
abbrev zo:ai:=(.st (.pr aB (.pr aB (.pr (.a6 .c7 bi) .nil))))
abbrev sh:ai:=(.optr oa)
abbrev GY:ai:=(.optr (.st (.pr wX (.pr zp .nil))))
abbrev Uv:ai:=(.osl (.osl sg))
abbrev Uw:ai:=(.ptr .be ip)
abbrev Cx:ai:=(.st (.pr eN (.pr kK (.pr eN (.pr (.a6 .c7 kK) .nil)))))
abbrev kL:ai:=(.a6 .c7 o3)
abbrev Ux:ai:=(.optr GQ)
abbrev Uy:ai:=(.optr zn)
abbrev Cy:ai:=(.ptr .be lE)
abbrev Uz:ai:=(.optr GR)
abbrev L7:ai:=(.ptr .be mw)
abbrev Cz:ai:=(.osl nr)
def tt:bn (X×ai):=[(3,aB),(4,.bool),(5,(.int .u8)),(9,.str),(22,(.a6 .be cX)),(23,gD),(24,(.a6 .be cX)),(26,uB),(27,L6),(31,zq),(41,cX),(42,cX),(46,zn),(50,nr),(52,GW),(55,(.a6 .be nr)),(56,fy),(58,cU),(60,bi),(63,(.a6 .be (.a6 .be cU))),(85,(.a6 .be gD)),(87,oc),(88,(.a6 .be (.e1 .be bi))),(90,wZ),(93,(.st (.pr aB (.pr aB (.pr gD (.pr aB .nil)))))),(96,(.a6 .be mv)),(98,(.st (.pr (.ptr .be wZ) (.pr gD (.pr gD (.pr (.a6 .be cX) (.pr (.a6 .be mv) (.pr aB .nil)))))))),(99,(.a6 .be (.a6 .be Cv))),(100,Cv),(103,(.a6 .be Cv)),(107,(.a6 .be GX)),(108,(.a6 .be GV)),(110,GX),(114,(.a6 .be (.a6 .be cX))),(116,GV),(127,(.a6 .be (.a6 .be .bool))),(129,cX),(130,(.a6 .be .bool)),(142,(.a6 .be (.a6 .be sg))),(148,sg),(149,(.a6 .be sg)),(152,(.a6 .be cU)),(158,fO),(163,(.e1 .be bi)),(182,(.st (.pr gD (.pr aB (.pr (.a6 .be .bool) (.pr (.a6 .be nr) .nil)))))),(191,mv),(202,(.a6 .be ob)),(205,ob),(234,(.a6 .be (.a6 .be .bool))),(259,(.st (.pr (.a6 .be (.a6 .be .bool)) (.pr (.a6 .be .bool) .nil)))),(288,(.fn 0 .nil)),(321,qK),(323,cX)]
def S3:∀a b,aq tt a=Y b->e9 cn b a:=S4 (by kernel_rfl)
def E:fk:={P:=cn,tt:=tt,ok:=S3,mix:=by kernel_rfl,glob:=[⟨0,301,.u8,pT⟩],gok:=Xx S3 (S:=5) (by kernel_rfl) (by kernel_rfl),eqs:=[46],eqok:=N3 (by kernel_rfl)}
def Lm:bn ai:=[gM,Up,lF,bi,cU,Uq,Us,.bool,qL,Un,cX,Ur,wX,pN,Ut,sf,sh,Uo,od,Ux,Uy,zp,Uz,Uw,GU,Uv,wW,Cz,fy,(.optr zq),(.optr Cw),(.optr wY),(.optr GS),zq,L7,uB,Cy,(.optr CA),oa,(.optr oc),(.osl cX),oc,gD,(.optr uB),zn,wY,(.optr GW),GW,Uu,(.ptr .be o3),(.optr gM),(.osl GV),L6,(.optr sg),GY,(.optr ip),nr,(.osl GX),(.optr od),(.osl gD),(.optr gD),(.st (.pr gM (.pr aB qI))),(.ptr .be qJ),(.osl (.a6 .be cU)),(.ptr .be sg),sg,Cw,(.mp bi),(.ptr .be qK),mv,(.osl (.osl Cv)),(.st (.pr gD (.pr aB qI))),GR,(.osl kK),(.ptr .be zo),ob,(.optr cX),(.optr o3),(.ptr .be aB),(.optr mv),GS,(.optr qJ),GQ,(.osl cU),(.osl sg),fO,(.a6 .be ob),(.ptr .be ob),(.optr aB),aB,o3,qK,(.ptr .be .nil),(.osl mv),(.a6 .be mv),(.ptr .be Cx),(.a6 .be nr),(.a6 .be (.a6 .be .bool)),(.st (.pr aB (.pr aB (.pr gM (.pr aB .nil))))),(.a6 .be gD),(.ptr .be wZ),(.osl (.mp bi)),(.ptr .be kL),(.st (.pr gM (.pr aB (.pr zp qI)))),CA,qJ,(.osl (.osl cX)),(.a6 .be cX)]
def aE {a:Func} {c:bn ho} {f:bn ai} {i:ht c->bw (iQ c (lM f))} (j:zm E) (e:X) (h:E.P.funcs[b]?=Y a) (g:(a.body.isSome&&b3 c.length a.ntmps)=bp:=by kernel_rfl) (l:(a.name=="runtime.NumGoroutine")=br:=by kernel_rfl) (k:∀d,AT ⟨E.tt,j.1,(KC Lm e).2.1,a.ntmps,j7 0 c++nS (jE 0 c),[],(KC Lm e).2.2,jE 0 c,[],[],E.glob,E.eqs⟩ ((KC Lm e).1.ex (a.body.getD .skip)) (a.body.getD .skip) c a.results.toList f d=i d:=by intro d;kernel_rfl):aA E ⟨b,c,f,i⟩:=
 aA.q j _ h (Vv h l (by have:=g;simp only[cE] at this;exact this.1)) _ _ g k
def Bi:aA E ⟨16,[.v aB,.v aB],[aB],sH⟩:=aE aD 0x60d func16
def Kb:aA E ⟨55,[.v kK,.v aB],[cX],u6⟩:=aE (ah Bi aD) 0x7a1e9b060d func55
def yz:aA E ⟨28,[.v cX],[.bool],o8⟩:=aE aD 0xd func28
def vU:aA E ⟨229,[.v fy],[lF],mA⟩:=aE aD 0x2082c821ab266d7f4b3435b0c101a28f318a51a6c0d func229
def tB:aA E ⟨227,[.v .bool,.v fy],[cU],l5⟩:=aE (ah vU aD) 0x1830070321200d func227
def FA:aA E ⟨156,[.v aB],[cU],sJ⟩:=aE (ah tB aD) 0xf8130f0123de5733a6c0d func156
def Bh:aA E ⟨155,[.v cU],[cU],pZ⟩:=aE (ah tB aD) 0x10558600d func155
def yC:aA E ⟨77,[],[bi],sL⟩:=aE aD 0x608 func77
def vD (a:Z):gJ:=⟨E.tt,[],[],14,[0]++(j7 0 [.v fO]++nS (jE 0 [.v fO])),[(0,.val fO a)]++[],[],jE 0 [.v fO],[],[],E.glob,E.eqs⟩
noncomputable def te:Code:=Tryz.f237.body.getD .skip
def vE:bU Oper:=(v5 3 te).getD #[]
def Jb:mj:=.two .none (.leaf) (.two .none (.two .none (.leaf) (.leaf)) (.leaf))
def E7:mj:=.keep [0] (.two .none (.leaf) (.two .none Jb (.two .none (.leaf) (.leaf))))
def yf (a:Z):aO:=⟨[(4,.val .bool (a==0)),(3,.val fO a),(2,.val aB 0),(0,.val fO a)],[]⟩
def Ja (a:Z):b6->aO->bw (iQ [.v fO] (lM [.int .i64])):=Oh E.tt [.v fO] [.tmp 2] [.int .i64] (a,())
def Yf:te=.seq (Gd te) (.seq (Gd (Sr te)) (.seq (.region 3 vE br) .ret)):=by kernel_rfl
def Yi:vE.size=10:=by kernel_rfl
def Yg (a:Z) (b:b6->aO->bw i) (c:aO->bw i):hJ (vD a) .leaf (Gd te) ⟨[(0,.val fO a)],[]⟩ i (BP (λd=>hJ (vD a) Jb (Gd (Sr te)) d i (BP c b)) b)=bif a==0 then b .ret ⟨(2,.val aB 32)::(yf a).g,[]⟩ else c (yf a):=by kernel_rfl
def Yc (a:Z) (b:aO->bw i):ll (vD a) vE [0,1,2,3,4] (yf a) b=b ⟨(9,.val fO (cb.wrap (eZ cb a (cb.wrap (0-a))*125613361)))::(8,.val fO (eZ cb a (cb.wrap (0-a))))::(7,.val fO (cb.wrap (0-a)))::(6,.val fO a)::(5,.val fO a)::(yf a).g,[]⟩:=by kernel_rfl
def Yd (a c d b:Z):ll (vD a) vE [5,6,7,8,9] ⟨(9,.val fO b)::(8,.val fO c)::(7,.val fO d)::(6,.val fO a)::(5,.val fO a)::(yf a).g,[]⟩ (Ja a .ret)=(eJ cb b 27).bind λe=>(aj pT e).bind λf=>Y (bK.wrap f,()):=by kernel_rfl
def Yj (a:Z):Ja a .ret ⟨(2,.val aB 32)::(yf a).g,[]⟩=Y ((32:Z),()):=by kernel_rfl
def Yh (a:Z) (c:ht [.v fO]) (e f:Code) (b:b6->aO->bw i) (g:c=(a,())):hJ ⟨E.tt,[],[],14,j7 0 [.v fO]++nS (jE 0 [.v fO]),[],[],jE 0 [.v fO],[],[],E.glob,E.eqs⟩ E7 (.seq e (.seq f (.seq (.region 3 vE br) .ret))) ⟨nA 0 [.v fO] c,nB 0 [.v fO] c⟩ i b=hJ (vD a) .leaf e ⟨[(0,.val fO a)],[]⟩ i (BP (λd=>hJ (vD a) Jb f d i (BP (λd=>ll (vD a) vE (bL vE.size) d (b .ret)) b)) b):=by subst g;rfl
def Ye (b:ht [.v fO]):AT ⟨E.tt,[],[],14,j7 0 [.v fO]++nS (jE 0 [.v fO]),[],[],jE 0 [.v fO],[],[],E.glob,E.eqs⟩ E7 te [.v fO] [.tmp 2] [.int .i64] b=xD b:=by obtain⟨a,⟨⟩⟩:=b;show hJ _ E7 te _ _ (Ja a)=_;rw[Yf,Yh a _ _ _ _ rfl,Yg,Yi,show bL 10=[0,1,2,3,4]++[5,6,7,8,9] from rfl,IU,Yc,Yd,Yj];exact Eq.refl (bif a==(0:Z) then Y ((32:Z),()) else(eJ cb (cb.wrap (eZ cb a (cb.wrap (0-a))*125613361)) 27).bind λc=>(aj pT c).bind λd=>Y (bK.wrap d,()))
def TH:js:=⟨237,[.v fO],[aB],xD⟩
def QJ:aA E TH:=
 aA.of (fn:=Tryz.f237) (rs:=[.tmp 2]) [] [] [] E7 func237 (by kernel_rfl) (by kernel_rfl) (by kernel_rfl) call237 SR (by intro a;exact Ye a)
def Ql:aA E ⟨160,[.v cU],[aB],qZ⟩:=aE (ah QJ (ah vU aD)) 0xfff03f421b60061aa16f0a6c0d func160
def Bj:aA E ⟨161,[.v cU],[cU],qY⟩:=aE (ah tB aD) 0x10558600d func161
def QI:aA E ⟨233,[.v fy,.v aB],[lF],xJ⟩:=aE aD 0x53d01391bde7118d0ac7d3ef9214db060d func233
def J6:aA E ⟨234,[.v fy,.v aB],[lF,.bool],xK⟩:=aE aD 0xae324cae5979e8e0fe3c42bc0032316c0fa33799a98d35177a6226ce541ba6f9a5312616247cec1866b350374658d682429b060d func234
def Qo:aA E ⟨165,[.v cU],[cU],Af⟩:=aE (ah tB aD) 0x10558600d func165
def aaW:aA E ⟨230,[.v fy,.v fy],[lF],DW⟩:=aE aD 0x41f880420be0ec3b4b01fad20a17d5a9cdab20ad391bde7118d0ac7d3ef9214db060d func230
def QH:aA E ⟨231,[.v fy,.v fy],[aB],Ag⟩:=aE aD 0x620a429b060d func231
def aaX:aA E ⟨232,[.v fy,.v fy],[lF],Ah⟩:=aE aD 0x2bfb002c07ff882a23ead4e6d590569c77118d0ac7d3ef9214db060d func232
def Bf:aA E ⟨153,[.v cU,.v cU],[cU],pY⟩:=aE (ah aaX (ah QH (ah aaW (ah vU (ah tB aD))))) 0x87eec45f48a50c4d35ea5dbd0327ba273d8d7d9851599a1b93c028393a4a49226da742b0e4b5741c7d1a4425335b38ac9ddf6ec6d73aa14fbcfefe8f838d623e950613abe741d88d1c5709c0f41a3bd5b492627075fd81041753060d func153
def JV:aA E ⟨159,[.v cU,.v cU],[cU],xI⟩:=aE (ah Qo (ah Bf aD)) 0x5e73c6ad8004bcf2b753060d func159
def Bg:aA E ⟨154,[.v cU,.v aB],[cU],m5⟩:=aE (ah J6 (ah QI (ah tB (ah JV (ah FA (ah Bh aD)))))) 0x657a928fb28058de5154418953bd06329486eca3a7945218b305d21ce9d76312700b99aa9feb8968fe29e0c2b7cc5630429aa70f4b3f0612bdd729b060d func154
def Qm:aA E ⟨162,[.v cU,.v aB],[cU],xM⟩:=aE (ah Bg aD) 0x12a206e95ad94ccb18d26e4798ccc8a34c0d func162
def J7:aA E ⟨238,[.v fO],[aB],xC⟩:=aE aD 0x2b42385dc039ada07d3 func238
def JW:aA E ⟨163,[.v cU],[aB],u7⟩:=aE (ah J7 (ah vU aD)) 0x1870070758600d func163
def tE:aA E ⟨78,[.v cU,.v aB],[bi],ov⟩:=aE (ah yC (ah JW (ah Qm (ah Bj (ah Ql (ah Bh aD)))))) 0x963e283b401bc6a47f500e722ae4a11b67b635a8a6db6db060d func78
def FK:aA E ⟨96,[.v aB],[bi],sM⟩:=aE (ah tE (ah FA aD)) 0x18a00d func96
def qc:aA E ⟨74,[.v bi],[bi],ld⟩:=aE (ah tE (ah yC aD)) 0xc570600d func74
def rD:aA E ⟨72,[.v cU],[aB],l4⟩:=aE (ah Bh aD) 0xd func72
def QM:aA E ⟨251,[.v .bool,.v cX],[cX],q0⟩:=aE aD 0x60d func251
def aa1:aA E ⟨248,[.v .bool,.v aB],[cX],Ak⟩:=aE (ah QM aD) 0x8a2dc93060d func248
def abv:aA E ⟨288,[.v cU,.v aB],[.bool],Ae⟩:=aE (ah J6 (ah vU aD)) 0x2990006591f2c01c2d628060d func288
def abw:aA E ⟨289,[.v .bool,.v aB,.v .bool,.v aB],[.bool],D3⟩:=aE aD 0xe2860d func289
def aa2:aA E ⟨249,[.v .bool,.v cU,.v aB,.v .bool,.v aB],[cU],D0⟩:=aE (ah rD (ah abw (ah abv (ah Qm (ah Ql (ah FA (ah Bf aD))))))) 0x4841b1f4c951b3668961efe0046ea6adac908c330f1e6893f358452583050a227323b3c816a80161d792bca935c86b039431f0d9047b5c98b2fe17e6a536c48e2860d func249
def aa4:aA E ⟨250,[.v cU],[aB,.bool],DU⟩:=aE (ah Bh aD) 0x6ce369aa2348940f9bc72429b6c0d func250
def Qt:aA E ⟨181,[.v .bool,.v cU,.v aB,.v .bool,.v aB],[cX],Al⟩:=aE (ah QM (ah aa4 (ah aa2 (ah aa1 (ah JW (ah Bg aD)))))) 0x2cd3add023f828516648d1039f3c84d19dcc4db6c48e2860d func181
def Kj:aA E ⟨99,[.v bi,.v aB],[cX],xN⟩:=aE (ah qc (ah rD (ah Qt (ah Bj aD)))) 0x19da5495bdf3e1e25d606f1bd81ea02760dd565cb46a6db060d func99
def aaT:aA E ⟨221,[.v aB,.v aB],[cX],D4⟩:=aE (ah Kj (ah FK aD)) 0x60d func221
def aai:aA E ⟨144,[.v cX],[cX],H1⟩:=aE (ah aaT aD) 0xd func144
def acp:aA E ⟨58,[.v cX,.v aB],[cX],u4⟩:=aE (ah yz (ah Bi (ah aai aD))) 0x60d func58
def Qp:aA E ⟨17,[.v kK,.v aB,.v aB,.v aB],[wW],u3⟩:=aE (ah acp (ah Kb aD)) 0x10e057a81411e7be866cc52f25d6df74f79002f7e5810665d9a801364afb04dd9cca493b5616526035f285796a5e2d5d30229a9e74e8f8805c46276d4157b88b6ecd9611b5df63da49a48cfe5f9be76f12429b0e2860d func17
def aaQ:aA E ⟨217,[.v kK],[.bool],D7⟩:=aE (ah yz aD) 0x30a5214c0d func217
def Be:aA E ⟨133,[.v ip],[aB],q1⟩:=aE (ah aaQ aD) 0xdd7ff49089a231007afee5752252d7622a0dbbe989d68087900b4c0d func133
def Ra:aA E ⟨98,[.v ip,.v aB,.v aB],[cX],sP⟩:=aE (ah Be aD) 0x137fa01285e44d1e0174c2860d func98
def acs:aA E ⟨79,[.v cX],[.bool],D5⟩:=aE aD 0xd func79
def tD:aA E ⟨27,[.v cX],[bi],iV⟩:=aE (ah acs (ah tE (ah yC (ah yz aD)))) 0xb408ac93c00cf40f9bcce9b6c0d func27
def Ki:aA E ⟨97,[.v bi],[bi],xL⟩:=aE (ah tE (ah qc (ah Bj aD))) 0x2771e6eff1011974c90a38b2ee992d3a3536c0d func97
def Q6:aA E ⟨69,[.v (.a6 .c7 bi)],[bi],Aj⟩:=aE (ah tE (ah yC (ah qc (ah rD (ah Bg (ah Bf aD)))))) 0x5ef36a8170566dd971c5e3f17348993db00bc7a6c1a048eb9c9a982f70aca57b3c95080ddcf836d5d93ab4ffc6fdddffa3e1d10ac5f809b17b674cba0738ba3964f7a46ce9335ed7b7e9b677c332649519e81694b3490a6c0d func69
def ZJ:aA E ⟨100,[.v ip,.v aB,.v aB],[.bool],An⟩:=aE aD 0x137fa01285e44d1e0174c2860d func100
def ab8:aA E ⟨38,[.v kK,.v aB,.v aB],[wW],Ab⟩:=aE (ah Kj (ah Ra (ah Ki (ah FK (ah Q6 (ah tD (ah Qp (ah Bi (ah ZJ aD))))))))) 0x4ce372c987b2f21ede14ce3467d7e176e19fa372f70820edf0023def0574b749658b4e7610a3217b2c22e8f0feaeaf4690e3b9222f2b490685f125798480478fc44e135908c9f143ab2e1efe1e7e0f395aab11a0adf7fae26f9c541f0655c62508e256a0ac2b87a96df92c35b418f15c81d04cf731d7922bb4d986501359c5f77abda0409b650eef740c43a0158921afa52653b55c830b515e8c62ac37611b5ded3b6255c8cfcdf6be770e1d5ca48536c2860d func38
def aas:aA E ⟨18,[.v kK,.v aB],[gD],Ac⟩:=aE (ah Kb (ah Bi aD)) 0x234ec7fd89867c4437f42bce11987e021f92218c37bd4e5bee93d36ad1574e1189dd0058e85a1536b71dbe925704be32809846be9bf06b27a6e88228e95f2d642f65464c965222429b060d func18
def Qh:aA E ⟨134,[.v ip],[pN],Am⟩:=aE (ah Be aD) 0xfef023d260ad6452e7260cf4f48a8d7162a9b99f4bacd37e17178bb3f493cb5e0eaea4879c5f018bbb47e69cbd7bc50fe8bb0c11d96cd7f708e754d2990578536c0d func134
def aad:aA E ⟨135,[.v aB,.v aB,.v (.a6 .c7 ob)],[wW],D8⟩:=aE aD 0x371ff193cf3fc0cfa1ec98b307b3cbf2d6fa702fc971a6f1f888186cacebc9f94f755502e7a86885ecf97108422cf8c7ae7e63cea7efbf91c939942949dd4fea69c14e5839cdd4a34be939203e47f66450564cd6d2e720d4b74ab61df1649acbb487a9e98b15c332d335c5ac269e43b625815c8c0cdf6be770e1d5ca48536c2860d func135
def Q1:aA E ⟨51,[.v ip],[uB,aB],sQ⟩:=aE (ah aad (ah Qh (ah Be aD))) 0xf150cdfe5fe3a923bcd72fea59a722058eaacb1254ce4166d1c772db8cc8e784be87ac5ecd2272bc29b6c0d func51
def Qi:aA E ⟨136,[.v aB],[wX],Aq⟩:=aE aD 0xdfc82467e0d9fb84722a694c90a6c0d func136
def Qj:aA E ⟨137,[.v (.a6 .c7 (.a6 .c7 .bool))],[Cw],Ao⟩:=aE aD 0x2fa291a1920f6ec8c280bc232e3965453e53d6c324c10abd6cc97b98d778430dac0269ceedd3dd9d281659a5cdefa49bf489d1800774521ac312d619e7e33cb5c33230451508a1e694b3490a6c0d func137
def Q2:aA E ⟨52,[.v ip],[oc,aB],sR⟩:=aE (ah Qj (ah Qi (ah Qh (ah Be aD)))) 0x6cf78da74f226906f4ea204e6f85ca6b4eb16595fcf7eb4861a59d716cb636ae5b71991c9091d0f58bd9a451e14db6c0d func52
def QD:aA E ⟨212,[.v eN],[.bool],Ad⟩:=aE aD 0x30a5214c0d func212
def J5:aA E ⟨214,[.v eN,.v aB],[.bool],sI⟩:=aE aD 0xc414853060d func214
def Fz:aA E ⟨138,[.v lE],[aB],vb⟩:=aE (ah J5 (ah QD aD)) 0x21b3ec802cac4b24b608f396b0c3542a578536c0d func138
def aae:aA E ⟨139,[.v eN,.v aB],[.bool],DP⟩:=aE aD 0xd89480d660c5e9f759579d61bf8532f9214db060d func139
def aaR:aA E ⟨218,[.v eN,.v aB],[.bool],D9⟩:=aE aD 0x4f6b0c414853060d func218
def aaS:aA E ⟨219,[.v eN],[.bool],Ea⟩:=aE (ah J5 aD) 0x30a5214c0d func219
def QE:aA E ⟨220,[.v lE],[wX],Ap⟩:=aE aD 0xb703efaaa9936cfb20a10e668944cb1d7bbc4ba8b9a6bd8625b2d4652391b40b242a578536c0d func220
def aaf:aA E ⟨140,[.v lE,.v eN],[oc,aB],Eb⟩:=aE (ah QE (ah aaS (ah aaR (ah Fz (ah Qj (ah Qi aD)))))) 0x1c6a8d6b90b7d9b4a14910fa08291137b6378284e37216ceb0a252989437ace3f34a19308f1a6ddc4598817dd8fbd12093b2d9732d5d489452393323a36e1c3648bbc29b6db060d func140
def Q3:aA E ⟨53,[.v lE,.v eN],[oc,aB],q2⟩:=aE (ah aaf (ah aae (ah Fz aD))) 0x1bc2423828060d func53
def aag:aA E ⟨141,[.v lE],[GY],Ec⟩:=aE (ah QE aD) 0x4ca507872a7daa731a2232cab0fd68412cdb299cf06a9b3733afa94e51321d3ffc580b32e81d4c0d func141
def Qk:aA E ⟨142,[.v (.ptr .c7 (.st (.pr (.a6 .c7 (.a6 .c7 .bool)) (.pr (.a6 .c7 .bool) .nil)))),.v aB],[gM],As⟩:=aE aD 0x37b000383e5fe082858959575560c7711810a65f2429b060d func142
def aah:aA E ⟨143,[.m GY,.v aB],[],Ar⟩:=aE (ah Qk aD) 0x10b27fa69338092a4b941ed211787e1ab7e378c6572663404371af2155fa3e0af9c3200e80ea256f3568ed84a33a765ade3c24123285034082439e14c1d func143
def acn:aA E ⟨54,[.v lE],[(.osl gD),aB],At⟩:=aE (ah aah (ah Qk (ah aag (ah Fz aD)))) 0xfc11063dcb87bbaa7f1b023ddd77232fd2750a42b1937c82bc29b6c0d func54
def aaa:aA E ⟨13,[.v ip,.v eN,.v kK],[GU],xG⟩:=aE (ah Kb (ah acn (ah Q3 (ah Q2 (ah Q1 aD))))) 0xb84d09814cb6d4647c12a16f58aadc57e142c0551a3acf0dcb222d39d5c4a9ba193d41e123cf43ce0f83692017bbfb59a59df8fdcb84f68a1d765e310b27c1368e60c868da2d735c6a4c7c7b8a9c4b64aee2f9dbe0b39efeee53de6b7d1c218e2585fc3332690c08f0961b323db7a2d5d8eccb14da8df8e11887ef90e36a0d9979908fa5799a09dc2faf449786faf32dc30ff0c2d34f28886c0f1104c5b0480a2e56620f2b6ac48e5ad31eea72125e4bc29b6db6c2860d func13
def ZI:aA E ⟨10,[.v kK,.v aB,.v aB,.v .bool],[uB,gD,GU],DR⟩:=aE (ah ab8 (ah aas (ah Qp (ah Bi (ah aaa aD))))) 0x40e4afd9160b85a364550d5b20bb82e4a853de9658b0c052530022493fbcfc98b7149c40c6e4d6e9f902fa8a5f4ce17862936c38a0d func10
def aat:aA E ⟨182,[.v aB,.v aB,.v aB],[.bool],DB⟩:=aE aD 0x2860d func182
def QC:aA E ⟨211,[.v aB],[.bool],su⟩:=aE aD 0xd func211
def J3:aA E ⟨200,[.v aB,.v aB],[.bool],uR⟩:=aE (ah QC aD) 0x60d func200
def aa5:aA E ⟨252,[.v eN],[.bool],DI⟩:=aE (ah J3 aD) 0x30a5214c0d func252
def aau:aA E ⟨183,[.v ip],[.bool],Dz⟩:=aE (ah aa5 aD) 0xc4e38401d66b93f29e80930b3bf78f127d54e40fbd6eac4b248cdff8c5060d1e00b4c0d func183
def J0:aA E ⟨194,[.v cX],[aB,cX],xo⟩:=aE aD 0xd func194
def vS:aA E ⟨147,[.v cX],[.bool],ou⟩:=aE (ah J0 aD) 0xd func147
def aaw:aA E ⟨185,[.v cX],[.bool],HQ⟩:=aE (ah vS aD) 0xd func185
def aa6:aA E ⟨253,[.v kK,.c 185 []],[aB],HS⟩:=aE (ah aaw aD) 0x3195177853060d func253
def aav:aA E ⟨184,[.v kK,.c 185 []],[.bool],DC⟩:=aE (ah aa6 aD) 0x60d func184
def Fy:aA E ⟨101,[.v ip],[aB],sG⟩:=aE (ah aau (ah aat (ah aav aD))) 0x67b600800a7b34c0d func101
def ZK:aA E ⟨102,[.v eN,.v aB],[gM,.bool],Eo⟩:=aE aD 0x24ba7e56d00a13fd1c6e649549b74dff84c188d32f8afd54b1020cf3dcc1d7726fed04fe9ab949db0f0a6db060d func102
def Qu:aA E ⟨186,[.v ip],[pN],xE⟩:=aE aD 0xffa42fc666439e93c588aef5307a40487df8decb96c7d388140c83212c38c63dac169e0af80c5dda3f34e5ebde287f45d879e23ce5ba6bfb8473aac94c8b4af0a6c0d func186
def abx:aA E ⟨290,[.v (.a6 .c7 ob)],[pN],HR⟩:=aE aD 0x68a00d func290
def JT:aA E ⟨122,[.v aB,.v aB],[aB],uQ⟩:=aE (ah QC aD) 0x60d func122
def abz:aA E ⟨293,[.v eN],[aB],CZ⟩:=aE aD 0x632a2d9d6f0a6c0d func293
def QU:aA E ⟨292,[.v ob,.v ob],[aB],xF⟩:=aE (ah abz (ah JT aD)) 0x44484baca6d40def2b0df6a0133753060d func292
def abV:aA E ⟨329,[.m pN,.v aB,.v aB,.c 292 []],[],Aa⟩:=aE (ah QU aD) 0x1fdca31dde7cb0d8bf34bc3c1d304081ba01abde156dcc56a12968308e8d4d148233fc240beae1c265119b1fcee01a7912ec06fb61d06a528c369ed21e670c0613412180c2c38a1d func329
def abX:aA E ⟨330,[.m pN,.v aB,.v aB,.v aB,.c 292 []],[],DN⟩:=aE (ah QU aD) 0x618d4d1092b124cd52f05993a6e2203a40c66b8b14bd9add5ea5af44781cf15546dae1a825886c2242b82dc7ebc6c7ab7ca64629fd4829c93800280de8bcc5ca1238a1d func330
def abL:aA E ⟨314,[.m pN,.v aB,.c 292 []],[],H0⟩:=aE (ah abX (ah abV aD)) 0x37989f703c821cbbc5f48089b3c0428d79ba2d5bd4a208b73ed8741a93cb0db19d4a09848e70d93620914769b0a1d func314
def aby:aA E ⟨291,[.m pN,.c 292 []],[],HX⟩:=aE (ah abL aD) 0x1d func291
def aa7:aA E ⟨254,[.v (.a6 .c7 ob)],[pN],DA⟩:=aE (ah abx (ah aby aD)) 0x0 func254
def aax:aA E ⟨187,[.v aB,.v aB,.v (.a6 .c7 ob)],[wW],Dy⟩:=aE (ah aa7 aD) 0x959d45da31ed7102809b9a0142053dc3f335aaee3b3355322320a652b1454f9e264022e136aa17af72e9088f5dbbd5332351d063bfd0f6d35eac33b7abac4c38a38504bc0fac0b2f6f07869dc2f816bcd5c9b5f959c9031e7f90692baab0b010c0f72fb6bd57bf8332d723fb3cbf7683cee3680f113a5618198a33039496922ae51ed9585e0a97f9af0bc7eee3ea155817ed8e712dcef21db00ae4745efb5f3faaceae5276f0a6c2860d func187
def ZL:aA E ⟨103,[.v ip],[uB,aB],Dx⟩:=aE (ah aax (ah Qu (ah Fy aD))) 0x1df4337f97f3c33500e9d4b34e440b6203aab2c6b1d5349e5d368e3b96dc664743c784be87e89adecd2632bc29b6c0d func103
def Qv:aA E ⟨188,[.v aB],[wX],zU⟩:=aE aD 0xc169ba8367ee11c8ab853234f0a6c0d func188
def aay:aA E ⟨189,[.v ip],[pN],Dw⟩:=aE (ah Qu (ah Fy aD)) 0x345b8600d func189
def Qx:aA E ⟨190,[.m wX,.v aB,.v aB],[],zX⟩:=aE aD 0x1b90811b875b96fba90abaafbe04f9b237bf78113530a1d func190
def aa8:aA E ⟨255,[.v (.a6 .c7 (.a6 .c7 .bool)),.v aB],[gM],Db⟩:=aE aD 0x948004acb192e60c7711810d05f24c1bc29b060d func255
def Qy:aA E ⟨191,[.v (.a6 .c7 (.a6 .c7 .bool))],[Cw],zW⟩:=aE (ah aa8 aD) 0x19b0646c8aac2424bc2bfce5b728325d2f1d7610c5e59c1ac58db9c2ae34926b4bfe5b98679f8cf2d70cc8c114542287c452cd240f0a6c0d func191
def ZM:aA E ⟨104,[.v ip],[oc,aB],zT⟩:=aE (ah Qy (ah Qx (ah aay (ah Qv (ah Fy aD))))) 0x1cf822550ff7d77877ce66f6c1b636ae5b7199653012123a1e02ab737b34a9bc29b6c0d func104
def aaC:aA E ⟨197,[.v eN,.v aB],[.bool],Dc⟩:=aE aD 0x13f44846cbb9863e60a39d3c29b060d func197
def aaF:aA E ⟨201,[.v aB],[.bool],DL⟩:=aE aD 0xd func201
def JS:aA E ⟨113,[.v eN,.v aB],[aB,.bool],u1⟩:=aE (ah aaF (ah J3 aD)) 0x1098cc9b28a3b4db060d func113
def Qz:aA E ⟨198,[.v lE,.v aB,.v aB],[.bool],xp⟩:=aE (ah JS aD) 0x8e0e02860d func198
def Qe:aA E ⟨107,[.v lE],[aB],zS⟩:=aE (ah Qz (ah aaC aD)) 0x4bd4d424fd40bed2a076cf69658e6c3a9308c83eeb40b7f36760e07f7730cdd4d51aa578536c0d func107
def abb:aA E ⟨258,[.v lE,.v aB],[.bool],Df⟩:=aE aD 0x23828060d func258
def abo:aA E ⟨280,[.v cX],[aB],ND⟩:=aE aD 0x209746502b745dc039f07d3 func280
def QB:aA E ⟨210,[.v cX],[aB],Du⟩:=aE (ah abo aD) 0xd func210
def ab1:aA E ⟨336,[.m gM,.v aB,.v aB],[],DK⟩:=aE (ah J3 aD) 0x38a4b03519c13a64e224dcdca5ab1d58671f6a6e5efc15ef57660e8f36506b24e15fd6d5d47412c43611215352028144b5ef00d873e014130d9eb4879003018400466030b0a1d func336
def abY:aA E ⟨332,[.m gM,.v aB,.v aB,.v aB],[],DM⟩:=aE (ah ab1 aD) 0xa037a2f317458008e9a7451b130b0185b func332
def abM:aA E ⟨316,[.m gM],[],z9⟩:=aE (ah abY (ah QB aD)) 0x0 func316
def TI:js:=⟨259,[.v eN],[.bool],De⟩
def abc:aA E TI:=L5.afr bo (sort:=λd=>(z9 (d,())).map λa=>a.1) (λe f b=>by obtain⟨a,c,rfl⟩:=fl.1 b;exact abM.2 (e,()) a c)
def aba:aA E ⟨257,[.v aB,.v Cy],[.bool],HI⟩:=aE (ah abb aD) 0x60d func257
def abA:aA E ⟨294,[.v eN,.c 257 [Cy]],[aB],HV⟩:=aE (ah aba aD) 0x3195177853060d func294
def aa9:aA E ⟨256,[.v eN,.c 257 [Cy]],[.bool],DG⟩:=aE (ah abA aD) 0x60d func256
def aaz:aA E ⟨192,[.v lE,.v eN],[aB],Da⟩:=aE (ah abc (ah Qe (ah aa9 aD))) 0x23828060d func192
def aaA:aA E ⟨193,[.v lE,.v eN],[oc],Dd⟩:=aE (ah Qz (ah Qy (ah Qx (ah Qv aD)))) 0x18715cf7c5789cb2c9b69bf02e37c46b3d0ab0d91a67ec23bf03771115205fd4aab44e10616d60f396e96c6d5d46e452392123a37717b64961143c29b060d func193
def ZN:aA E ⟨105,[.v lE,.v eN],[oc,aB],zV⟩:=aE (ah aaA (ah aaz aD)) 0x1bc2423828060d func105
def l7:aA E ⟨226,[.v fy],[fy],iu⟩:=aE aD 0x1a28f318a51a6c0d func226
def tC:aA E ⟨239,[.v .bool,.v fy],[cU],l3⟩:=aE (ah l7 aD) 0x21200d func239
def FB:aA E ⟨168,[.v aB],[cU],uW⟩:=aE (ah tC aD) 0xdf530f0123de5733a6c0d func168
def aaB:aA E ⟨195,[.v cX],[.bool],C8⟩:=aE aD 0xd func195
def FG:aA E ⟨240,[.v fy],[lF],u2⟩:=aE aD 0x10a00d func240
def J1:aA E ⟨196,[.v cU],[cU],sC⟩:=aE (ah FG (ah tC aD)) 0x13eff81bf3c519fa4e0f047e9e9ffe2c0dd4c0d func196
def FD:aA E ⟨177,[],[bi],xm⟩:=aE aD 0x608 func177
def aaU:aA E ⟨222,[.v cU],[cU],Di⟩:=aE (ah FG (ah tC aD)) 0x2e8f139fdf62eff0bf10f98af03cb94add4c0d func222
def yy:aA E ⟨149,[.v cU],[aB],pX⟩:=aE (ah l7 aD) 0x58600d func149
def QF:aA E ⟨223,[.v cU],[aB],zZ⟩:=aE (ah QJ aD) 0x18db00319516d1e14c0d func223
def abq:aA E ⟨282,[.v fy],[aB],z2⟩:=aE (ah J7 aD) 0xd func282
def FF:aA E ⟨224,[.v cU],[aB],sB⟩:=aE (ah abq (ah l7 aD)) 0x58600d func224
def QS:aA E ⟨286,[.v fy,.v aB],[fy],xw⟩:=aE (ah l7 aD) 0x25561a988284004635c91aca8599e2f0a6db060d func286
def abK:aA E ⟨313,[.v fO],[.bool],HJ⟩:=aE aD 0xd func313
def abU:aA E ⟨328,[.v fy,.c 313 []],[aB],HW⟩:=aE (ah abK aD) 0x3195177853060d func328
def abJ:aA E ⟨312,[.v fy,.c 313 []],[.bool],z7⟩:=aE (ah abU aD) 0x60d func312
def QT:aA E ⟨287,[.v fy,.v aB],[fy,.bool],z1⟩:=aE (ah l7 (ah abJ aD)) 0xbbe80961156045d82d18e7622afa3a37fab0b3f09b34a95aa7f65628436c8eb47c82b9eb684db060d func287
def J9:aA E ⟨245,[.v fy,.v fy],[fy],xv⟩:=aE (ah l7 aD) 0xdb4c17e506b0084181cf87f15780fd690b822cf56a736a694e64aef79d79b0e0d1f4400542702a07d3 func245
def QL:aA E ⟨247,[.v cU,.v aB],[cU,aB],qU⟩:=aE (ah QT (ah QS (ah J9 (ah tC (ah l7 aD))))) 0x2c0d40b7824f6784d8b1f0638b6aed0c267a5d26b10ad4f50c1e4140483ac0dd20c78ab926cc6453060d func247
def QG:aA E ⟨225,[.v cU,.v aB],[cU],zP⟩:=aE (ah QL aD) 0x12a206e95ad94ccb18d26e4798ccc8a34c0d func225
def vT:aA E ⟨148,[.v bi],[bi,.bool],ot⟩:=aE (ah QG (ah FF (ah QF (ah aaU (ah FD (ah yy aD)))))) 0x1326d3dddf3a6b7574272efdf39dec77aaf10f35f74536fe341c5335c93633cc66684b4db6c0d func148
def Bk:aA E ⟨167,[.v cU,.v aB],[bi],sv⟩:=aE (ah vT aD) 0x196325628060d func167
def pi:aA E ⟨106,[.v cX],[bi],kP⟩:=aE (ah J1 (ah aaB (ah J0 (ah FB (ah Bk aD))))) 0x4b1eed0378d36dc666172033de6f513426c0d func106
def Q0:aA E ⟨39,[.v ip,.v eN],[(.ptr .be wZ),aB],q5⟩:=aE (ah pi (ah ZN (ah ZM (ah ZL (ah ZK (ah Fy aD)))))) 0x5018ebc57ea0905347e1dabe17afcc003ed06288a63946180f7ee1f5c9b4cbb46d42b47ca54170347b73464365fea0eba37415b76f300aa73978eec5622fcfde5343ed275965c844335fe446172956de91f65cb8a27fd6f0273e4889c47fcd3fc925964538d48400b05bd924b4e5415880f4eb014fae491d978b4fb45d4b0aba88dd274cdd4b44d0b55f578d602ddfa21edc28a626132d9ede1c31fd9acfec65d79dbfe4a5d606f1be309200dd565cb46a6db6db060d func39
def abB:aA E ⟨299,[.v cX,.v cX],[cX,cX],Dv⟩:=aE aD 0x60d func299
def abd:aA E ⟨260,[.v cX,.v cX],[cX,cX],HP⟩:=aE (ah abB aD) 0x60d func260
def aaD:aA E ⟨199,[.v eN,.v aB],[gM],DJ⟩:=aE (ah abd aD) 0x4f1df1c7b43d69ee5cbeb6acff078e0b6c79603b14c9a2997259069be51e39053060d func199
def ZO:aA E ⟨108,[.v kL,.v aB],[gM,.bool],El⟩:=aE (ah aaD aD) 0x8c6b0a4915c00bd6692471aa627386d879118613a822be88c5866006e60ebb93013c46523febc29b060d func108
def ZR:aA E ⟨110,[.v o3,.v aB],[.bool],En⟩:=aE aD 0x29886fc0076f4bdfe95654edcc34053e6b0a1e14db060d func110
def ZT:aA E ⟨112,[.v kL,.v eN,.v o3],[.bool],Em⟩:=aE (ah JS aD) 0x313b180181daa81aac5eb8bc29b6c2860d func112
def ZP:aA E ⟨109,[.v o3,.v (.ptr .c7 aB)],[.bool],H7⟩:=aE (ah ZR aD) 0x57828060d func109
def ZU:aA E ⟨114,[.v kL,.c 109 [(.ptr .c7 aB)]],[aB],HT⟩:=aE (ah ZP aD) 0x3195177853060d func114
def aca:aA E ⟨41,[.v kL,.c 109 [(.ptr .c7 aB)]],[.bool],DD⟩:=aE (ah ZU aD) 0x60d func41
def ZS:aA E ⟨111,[.v o3,.v (.ptr .be kL),.v (.ptr .c7 gD)],[.bool],H8⟩:=aE (ah ZT aD) 0x15e0e02860d func111
def ZV:aA E ⟨114,[.v kL,.c 111 [(.ptr .be kL),(.ptr .c7 gD)]],[aB],HU⟩:=aE (ah ZS aD) 0x3195177853060d func114
def acb:aA E ⟨41,[.v kL,.c 111 [(.ptr .be kL),(.ptr .c7 gD)]],[.bool],DE⟩:=aE (ah ZV aD) 0x60d func41
def ab9:aA E ⟨40,[.v lE,.v kL],[aB],xV⟩:=aE (ah JS (ah ZO (ah Qe (ah acb (ah aca aD))))) 0x18150ea83acfc35258f27581a39e74c5d1369b7838268caf65751e1fd1a083817c0984d9ac0bda67784ece531e9c3d2cdb68776d62592527f0e85fd0587d05d021347c83152d55954536db060d func40
def ZX:aA E ⟨115,[.v o3,.v (.a6 .c7 kJ)],[gM,aB],Dr⟩:=aE aD 0x6fc9e5f6e37f070ceaf6e7f98519f8018dcd9410b424c3745a1cc734aace3ce5b983aee4604f5994948b43c29b060d func115
def Qf:aA E ⟨116,[.v (.ptr .c7 (.st (.pr aB (.pr lE (.pr (.a6 .c7 (.e1 .c7 bi)) .nil))))),.v aB,.v aB],[bi],p0⟩:=aE aD 0x19a02860d func116
def aaG:aA E ⟨202,[.v eN,.v aB],[aB],NE⟩:=aE aD 0x3195177853060d func202
def JY:aA E ⟨172,[.v bi,.v bi],[bi,bi,.bool],xn⟩:=aE (ah vT aD) 0x16dfd661c5ccb66bde98b8a9221192db268d4db060d func172
def Bl:aA E ⟨180,[.v cU,.v aB],[cU],oq⟩:=aE (ah QL aD) 0x848060d func180
def Qr:aA E ⟨173,[.v bi,.v bi],[cU,cU,aB],zO⟩:=aE (ah Bl aD) 0x9093705ab462aadc7bbb83df416ea3999ba9b060d func173
def abI:aA E ⟨311,[.v fO],[.bool],C0⟩:=aE aD 0xd func311
def abt:aA E ⟨284,[.v fO,.v fO],[aB],CY⟩:=aE (ah abI aD) 0x60d func284
def J8:aA E ⟨241,[.v fy,.v fy],[aB],xq⟩:=aE (ah abt (ah JT aD)) 0x620a429b060d func241
def QK:aA E ⟨246,[.v fy,.v fy],[fy],xu⟩:=aE (ah l7 aD) 0x913b594e402c0809a80b1171f56a736b342e69c77118d0dc7d3ef92c25e14db060d func246
def FE:aA E ⟨179,[.v cU,.v cU],[cU],sA⟩:=aE (ah QK (ah J9 (ah J8 (ah tC (ah l7 aD))))) 0x398267c5e5cb421c0bf15ec412370d6777027b00ff919578eb969b060d func179
def Qq:aA E ⟨170,[.v bi,.v bi],[bi],zM⟩:=aE (ah FE (ah FD (ah Qr (ah JY (ah Bk aD))))) 0x21e434648060d func170
def ZY:aA E ⟨117,[.m sf,.v kJ],[],Nu⟩:=aE (ah aaG (ah Qq aD)) 0x4d7eb7f7388a0e93d703f0f116e0d1ca88071de5398f98e789e7b619828025835f549337c3d2b21f3062a44aacb349de825ddc5800acc277de6dac0e127e483ada7b8e7ebc41feabe5600fa57752de1e93180e54aff3e888d164af718ffc3bbc7e83d634c2a36dea5612b34904e3c02256e87fd5be3fa3d944d6a8e9003feae5ec8ef5cc154e4ca4246038d0fd2c6093b61e14c1d func117
def ace:aA E ⟨43,[.v (.ptr .c7 (.st (.pr aB (.pr lE (.pr (.a6 .c7 (.e1 .c7 bi)) .nil))))),.v o3,.v (.a6 .c7 kJ)],[sf,aB],Dn⟩:=aE (ah ZY (ah Qf (ah ZX aD))) 0x79006c4a046b69142cf4fcfd2c095d0c411aff892803a8c831265f9cdf6f83a8c271127dd76b6ea4e1d5f411ebaf3515246d2f593130c451b113bbcd932e301e093c0987fc92005beca2b4328551ca1cba4c9f02122774d5d1e4b75954bb2b0648659be252c7745276b646b749c3ad22a4ae89b9cb78324ca13dc8377d85df53cd56c04492c64f64a4c4e7055a10bcc24f6321c66a40764cb4cd9b6847dd7f3c2950194a4a312761443e7a1f750295ac96edb79a0436c50afaa0438e8f9c9eb17551c278591d7cff4adb627b34bad079d86a39429046b7f389a52a0a3756dfd776285f33ef3ca4da4f46f88c874a6da31e860073087cc0eca1a3070c6b1d28fe13b2d59a1382001406f45e62e536c2860d func43
def yD:aA E ⟨83,[.v aB],[bi],o7⟩:=aE (ah FB (ah Bk aD)) 0x18a00d func83
def JX:aA E ⟨166,[.v bi],[bi],uT⟩:=aE (ah vT aD) 0x18a00d func166
def yA:aA E ⟨61,[.v bi],[aB],oo⟩:=aE (ah yy (ah vT aD)) 0xd func61
def FC:aA E ⟨169,[.v cU],[cU],sy⟩:=aE (ah FG (ah tC aD)) 0x14d10558600d func169
def abE:aA E ⟨302,[.v bi],[qK],HH⟩:=aE (ah FC aD) 0xacaa17150fde9cdd00cdd4c0d func302
def abO:aA E ⟨319,[.v qK],[aB],C3⟩:=aE (ah FF aD) 0x28e0600d func319
def ab2:aA E ⟨344,[.v cU,.v cU],[cU],Dj⟩:=aE (ah FE aD) 0x425628060d func344
def Qs:aA E ⟨174,[.v cU,.v cU],[aB],zY⟩:=aE (ah J8 (ah l7 (ah yy aD))) 0xb1d628060d func174
def abZ:aA E ⟨333,[.v qK,.v aB],[cU,aB,.bool],zN⟩:=aE (ah ab2 (ah QG (ah FF (ah Bl (ah Qs (ah FB (ah yy aD))))))) 0x1c18518eef2bd6b077e5b23133f662829d83973b2b940fafa2c53c00f0fdbddf7b7bff50820b4cea6db060d func333
def abQ:aA E ⟨321,[.v qK,.v aB,.v aB],[cU],C4⟩:=aE (ah abZ (ah QF (ah J1 (ah Bl (ah FE (ah FB (ah yy aD))))))) 0x516e67d9c03d4be4b593b527a8a141cf3ec73874347881059210e08bec0ff815cc2e4256ca7579f26ae4cb26c2860d func321
def abP:aA E ⟨320,[.v cU],[aB,.bool],Dg⟩:=aE (ah l7 aD) 0xa7c641ad7f1d2d071bccbdff54d885b951b13e8897972bc29b6c0d func320
def QX:aA E ⟨322,[.v cX,.v .bool],[cX],uV⟩:=aE aD 0x60d func322
def abR:aA E ⟨323,[.v .bool,.v aB],[cX],C9⟩:=aE (ah QX aD) 0x8a2dc93060d func323
def QV:aA E ⟨301,[.v qK,.v aB],[cX],zR⟩:=aE (ah abR (ah QX (ah abQ (ah abP (ah abO (ah FC aD)))))) 0x1ea87807b3e04826db060d func301
def abe:aA E ⟨262,[.v bi,.v aB],[cX],uU⟩:=aE (ah yA (ah abE (ah QV (ah JX aD)))) 0x60d func262
def J4:aA E ⟨206,[.v kJ,.v aB,.v aB],[cX],xz⟩:=aE (ah abe aD) 0x2860d func206
def abN:aA E ⟨318,[.v cX],[aB],C6⟩:=aE (ah J0 aD) 0x107f69059a6c0d func318
def abD:aA E ⟨300,[.v kK],[.bool],C7⟩:=aE (ah abN aD) 0x316513c5e14c0d func300
def QN:aA E ⟨261,[.v cX],[cX],sx⟩:=aE (ah abD aD) 0xd func261
def Kh:aA E ⟨86,[.v bi,.v bi],[aB,.bool],uS⟩:=aE (ah Qs (ah Qr (ah JY aD))) 0x444878060d func86
def aaH:aA E ⟨203,[.v kJ,.v aB],[bi,aB,aB],u0⟩:=aE (ah Kh (ah yD (ah QN (ah J4 (ah vS (ah pi aD)))))) 0x588fc0c7e46989ff34ea4ff874136a293cca76335cc91c70abeda2e0d06c6e658ea48ba045260ed1b7d1c9ab649c3c29b060d func203
def aaI:aA E ⟨204,[.v kJ,.v aB],[bi],uZ⟩:=aE (ah QN (ah J4 (ah pi aD))) 0x648060d func204
def aa0:aA E ⟨244,[.v fy,.v fy],[fy],Dk⟩:=aE (ah l7 aD) 0x2fc9a11e020c623fde3ecd3f4be637e9993a2a0976f654c3424c58967aaca694e303fe3afed168f9093060d func244
def aar:aA E ⟨178,[.v cU,.v cU],[cU],Dh⟩:=aE (ah aa0 (ah tC (ah l7 aD))) 0x38bc3f495bb3d89730d0333753060d func178
def vV:aA E ⟨90,[.v bi,.v bi],[bi],la⟩:=aE (ah aar (ah FD (ah JY (ah Bk aD)))) 0x1319ea9cf458ab1896b6ab26818f4fdfafcf5929aad2401baacb968d4db060d func90
def aaJ:aA E ⟨205,[.v bi,.v bi],[.bool],xA⟩:=aE (ah vV (ah Kh (ah yD aD))) 0xe1dc28060d func205
def ZZ:aA E ⟨118,[.v kJ],[gM,aB],xy⟩:=aE (ah vV (ah yA (ah aaJ (ah aaI (ah aaH aD))))) 0x95245812a0a3df38ebf57b4ecb1a4babfe744d44e861e3a90899d7d2f6ef9cda1db9a3f8a9e0152b992392b3730cb94b1e14c0d func118
def QO:aA E ⟨263,[.v kJ],[gM],Dq⟩:=aE aD 0x5e8002f94f0ae607ee1180abe5323af0a6c0d func263
def ab5:aA E ⟨350,[.v fy,.v fO],[fy,fO],Nt⟩:=aE (ah l7 aD) 0x10230b9c413d9c26b918d3b27d6f29214db060d func350
def QY:aA E ⟨326,[.v fO],[aB],z6⟩:=aE (ah J7 aD) 0xd func326
def TK:js:=⟨351,[.w fO,.v fy],[fO],Nr⟩
def ab6:aA E TK:=
 .q aD (.k [1] (.n (.n (.t .none (.d [.b [0],.a,.b [0],.b [0],.a,.a,.b [0],.a,.a,.b [0],.b [0],.a,.a,.a]) (.n (.t .none (.o (.k [5] (.p ⟨[(0,.w 0),(7,.v cX),(8,.v cX)],[(0,lF)]⟩ (.x 0 ⟨[(0,.w 0),(7,.v cX)],[(0,lF)]⟩) (.t (.wo [7,8] ⟨[(0,.w 0)],[(0,lF)]⟩) (.t .none (.d [.a,.a,.a,.a,.a,.a,.a,.a,.a,.a,.a,.a,.a,.b [0],.a,.a,.b [0],.b [0],.a,.a,.a,.a]) .l) .l)))) (.n (.t .none (.n (.o (.k [5,7,84,85] (.p ⟨[(0,.w 0),(9,.v cX),(10,.v cX),B1 86],[(0,lF)]⟩ (.x 2 ⟨[(0,.w 0),(9,.v cX),(10,.v cX)],[(0,lF)]⟩) .l)))) (.n (.n (.n (.n (.t .none (.n (.o (.k [5,7,140,141] (.p ⟨[(0,.w 0),(9,.v cX),B1 142],[(0,lF)]⟩ (.x 4 ⟨[(0,.w 0),(9,.v cX)],[(0,lF)]⟩) .l)))) .l))))))))))))) func351 call351
def ab3:aA E ⟨345,[.v fy,.v fy],[fy,fy],Ns⟩:=aE (ah ab6 (ah ab5 (ah QY (ah QT (ah QS (ah J8 (ah FG (ah l7 aD)))))))) 0x18aeeeedfec8ea0182e7212c918b4d25c414f669368a4637e66e53e6c922f3a78536db6db060d func345
def ab0:aA E ⟨334,[.v cU,.v cU],[cU,cU,aB],Nq⟩:=aE (ah ab3 (ah QK (ah J9 (ah tC (ah l7 aD))))) 0xf788e0cb21542043b401bc9747f2c0e722a5ad9592864d80a9ce054cf7b632a826db060d func334
def abS:aA E ⟨324,[.v bi,.v bi,.v aB],[qK],Np⟩:=aE (ah ab0 (ah FF (ah Bl (ah FC (ah yy aD))))) 0x2d553b25a474298294e1aa7de92eec6701da11a33e060d970ef81ccfc0ebba803338937a0666ea6c2860d func324
def FI:aA E ⟨303,[.v bi,.v bi,.v aB],[cX],zQ⟩:=aE (ah yA (ah abS (ah QV (ah JX aD)))) 0x57bd99e6dacfaac797f32a792d67b8db2a141d202d2ede8d4c2860d func303
def QQ:aA E ⟨268,[.v (.a6 .c7 bi),.v bi],[qL],qX⟩:=aE (ah vV aD) 0x3a4a66f7e0931dc46c42f97c8e735bc29b060d func268
def aap:aA E ⟨171,[.v bi],[bi],C2⟩:=aE (ah J1 (ah vT aD)) 0x93c00cf192331ba6c0d func171
def FJ:aA E ⟨85,[.v bi,.v bi],[bi],sw⟩:=aE (ah aap (ah Qq aD)) 0x47b452bee004bcf2b753060d func85
def QP:aA E ⟨267,[.m sf,.v eN,.v (.a6 .c7 bi),.v (.a6 .c7 bi)],[],qW⟩:=aE (ah vV (ah FJ aD)) 0x1df4ec24225ed6d23853449b6ba86f6015a49eb3cc6a16100ebbb3039beafd16394c3c0e945c8fc0bf9d0fb12faad8742398030ddda31ed7b4d0f46d0c0613c13980c36cd2c38a1d func267
def abg:aA E ⟨265,[.v aB],[bi],NB⟩:=aE (ah yD aD) 0x18a00d func265
def abh:aA E ⟨266,[.v kJ,.v eN,.c 265 [],.v bi],[wY,qL,aB],Nx⟩:=aE (ah FI (ah abg (ah vS (ah pi aD)))) 0x110edc05890329cfb891e901349a2b11286e4e1da761e9463519443f16cd2e312022052e81deec4c21f6d3b9d8d628dc0976d2a9bbb4e1eb89ab0af6c30ead0ac6a803630b4c2b01821dc12a599684c3c2b15bad91576eace834e39cc72dd0b848be79179ab611a49992c2ea285d33dd1205e24d51dde14db0e2860d amB
def abf:aA E ⟨264,[.v aB,.v (.ptr .be kJ),.v (.ptr .be aB)],[bi],NA⟩:=aE aD 0x32efc6f7e0f204cdd4c2860d func264
def abi:aA E ⟨266,[.v kJ,.v eN,.c 264 [(.ptr .be kJ),(.ptr .be aB)],.v bi],[wY,qL,aB],Ny⟩:=aE (ah FI (ah vS (ah pi (ah abf aD)))) 0x110edc05890329cfb891e901349a2b11286e4e1da761e9463519443f16cd2e312022052e81deec4c21f6d3b9d8d628dc0976d2a9bbb4e1eb89ab0af6c30ead0ac6a803630b4c2b01821dc12a599684c3c2b15bad91576eace834e39cc72dd0b848be79179ab611a49992c2ea285d33dd1205e24d51dde14db0e2860d amB
def aaK:aA E ⟨207,[.m sf,.v aB,.v cX],[(.osl mv),aB],Nz⟩:=aE (ah yD (ah yA (ah QQ (ah QP (ah QO (ah pi (ah abi (ah abh aD)))))))) 0x8a17e9f13b5ca7b18d7c88dcc46098fd8c3d0a5ca71f7e35ebc60e0916a764cff978abe49c9a29612ec91cb5b47a3f7847c6a35999ce961406ada1da9b0a1d func207
def Ke:aA E ⟨62,[.v (.a6 .c7 bi)],[bi],sF⟩:=aE (ah vV (ah FJ aD)) 0x5ec6547812c55d1cccdd4c0d func62
def QR:aA E ⟨269,[.v aB,.v aB,.v aB,.v bi,.v bi,.v (.ptr .be kJ)],[bi],HK⟩:=aE (ah vV (ah FJ aD)) 0x1758e808151921459c5a34a403333337531648e2860d func269
def abl:aA E ⟨270,[.v aB,.v (.ptr .be (.fn 269 (.pr (.ptr .be kJ) .nil))),.v (.ptr .be aB),.v (.ptr .be aB),.v (.ptr .c7 nr)],[bi],Nv⟩:=aE (ah QR aD) 0x137b461f07c441ccdd4c48e2860d func270
def abj:aA E ⟨266,[.v kJ,.v eN,.c 270 [(.ptr .be (.fn 269 (.pr (.ptr .be kJ) .nil))),(.ptr .be aB),(.ptr .be aB),(.ptr .c7 nr)],.v bi],[wY,qL,aB],HL⟩:=aE (ah FI (ah vS (ah pi (ah abl aD)))) 0x110edc05890329cfb891e901349a2b11286e4e1da761e9463519443f16cd2e312022052e81deec4c21f6d3b9d8d628dc0976d2a9bbb4e1eb89ab0af6c30ead0ac6a803630b4c2b01821dc12a599684c3c2b15bad91576eace834e39cc72dd0b848be79179ab611a49992c2ea285d33dd1205e24d51dde14db0e2860d amB
def abm:aA E ⟨271,[.v aB,.v (.ptr .be (.fn 269 (.pr (.ptr .be kJ) .nil))),.v (.ptr .be aB),.v (.ptr .be aB),.v (.ptr .c7 nr)],[bi],Nw⟩:=aE (ah QR aD) 0x137b461f07c441ccdd4c48e2860d func271
def abk:aA E ⟨266,[.v kJ,.v eN,.c 271 [(.ptr .be (.fn 269 (.pr (.ptr .be kJ) .nil))),(.ptr .be aB),(.ptr .be aB),(.ptr .c7 nr)],.v bi],[wY,qL,aB],HM⟩:=aE (ah FI (ah vS (ah pi (ah abm aD)))) 0x110edc05890329cfb891e901349a2b11286e4e1da761e9463519443f16cd2e312022052e81deec4c21f6d3b9d8d628dc0976d2a9bbb4e1eb89ab0af6c30ead0ac6a803630b4c2b01821dc12a599684c3c2b15bad91576eace834e39cc72dd0b848be79179ab611a49992c2ea285d33dd1205e24d51dde14db0e2860d amB
def aaL:aA E ⟨208,[.m sf,.v aB,.v aB,.v kK],[(.osl mv),aB],Dp⟩:=aE (ah Ke (ah QQ (ah QP (ah QO (ah pi (ah abk (ah abj aD))))))) 0x220f838017cabcc38d878864832136ef3705b21222f92856b512d000ac6106dd11d7fd766c0ee7cdd1327c41821491f59bcb4d64e439477f40f33e7f9836363caab8dc72c67b37f903bbd26805f5ced22f4be8a5de809fd2db119dd3276eb914db624487400f6a296a30d4d13e4f43eff5f9c67dbfbaa2f4af39744c7fc7fe6ed2de915ec27b66e93b65d573b6a9d0794e3676424f1cee3b8566c3e45666ea6c38a1d func208
def Z0:aA E ⟨119,[.m (.optr CA),.m sf,.v eN],[aB],HO⟩:=aE (ah aaL (ah aaK (ah J4 aD))) 0x171e5c0d980f51515dfe713bf7bf1998ef583f32159c176172d22ac1c32788fffdecc426808b436db260497d926041bf98c4a80fa01fec211753fdf0aabfa8a69f79cb72448212a619dde991fa5577ac0fdfaa074cc49092bd5c7cfc90a5bff7b9eb418aa8505b5f1fe26481e08e7fb4e56b0bc20f7ce47190fa6dffd26f600515e958bac3d88dac24daebef5c721c25c32a62774a4d804f42e2a2f5291949fdc68d36d942cc33cac69f7622513414d7a452c323f1974748640655bdca2b4516da4356b826ff2b1476bb37c940347b4b3f26b68e74894c355e06c9045feda2aa6a9abf2c8ac32e03fc4c07e34ea4e3a75e8897f0708e30132137ca2d87fb4c742f65f1da0d561896e673f1676d63850054424626a5cd247681d66ac6c1252f0a6c2d func119
def acf:aA E ⟨44,[.m (.optr CA),.m sf],[aB],Dt⟩:=aE (ah Z0 (ah ZZ aD)) 0x163fc65b80ff711c9112fdf745fa6cc48f05b0ff526cab8d6482a8d9a3c7cca2139475a43b6b1c24a2126b491da061b048d3 func44
def Z3:aA E ⟨121,[.v aB,.v aB,.v (.ptr .c7 eN),.v (.ptr .c7 mv)],[aB],NC⟩:=aE (ah JT aD) 0xe2860d func121
def abn:aA E ⟨272,[.m gM,.v aB,.v aB,.c 121 [(.ptr .c7 eN),(.ptr .c7 mv)]],[],HY⟩:=aE (ah Z3 aD) 0x1fdca31dde7cb0d8bf34bc3c1d304081ba01abde156dcc56a12968308e8d4d148233fc240beae1c265119b1fcee00a0512ebfc0361cf80528c369ed21e400c0610012180c2c38a1d func272
def aaM:aA E ⟨209,[.m gM,.v aB,.v aB,.v aB,.c 121 [(.ptr .c7 eN),(.ptr .c7 mv)]],[],HZ⟩:=aE (ah abn aD) 0x280de8bcc5d160023ae9d546c4c2c0616c4d func209
def Z2:aA E ⟨120,[.m gM,.c 121 [(.ptr .c7 eN),(.ptr .c7 mv)]],[],z8⟩:=aE (ah QB (ah aaM aD)) 0x1d func120
def acg:aA E ⟨45,[.v (.ptr .be (.st (.pr (.ptr .be wZ) (.pr gD (.pr gD (.pr (.a6 .be cX) (.pr (.a6 .be mv) (.pr aB .nil)))))))),.v eN],[GS],Ds⟩:=aE (ah Z2 aD) 0x3762376f90e937bf32923b94339d468b45194bf042a6aeca05cb89bb7c97cd05c5c313825edf5c520f44146c996c0adc28cf289677f0dbf2c40a90f48ca0b26f2dda8d320e78181d004631001629b6d22ed9555bd5285a128b6fdd9008a6d7a8aeae178af1497a0a4f3de68d38a5e89276376da3803c6dd1f04123c57ca9f2bbac6ecf2bc22b839735be1e947febc823c6611e57409605c1d08d38e7250e960e829aaa5a950ffbd9448d5bb50806be1d68ab82a4ee0203ccbc94040ba624502865cb2608b5f5a5de5a9da44f79cc5b819e982928b8ded8f98ab1bee883a5a7ca1b0faea441d079e739b17af895fc886812c2b5815132107f3871b458be6862e42bf42a3ebf326fa3f72a76d1848a4860d3fd36a7b8d08063c94eaaf00489cb9e461ae33c99104ae30fa09759129a12140dd5ff3e986df9613916cc559ba9b060d func45
def acd:aA E ⟨42,[.v o3],[.bool],Dm⟩:=aE aD 0x15e0600d func42
def ZW:aA E ⟨114,[.v kL,.c 42 []],[aB],DH⟩:=aE (ah acd aD) 0x3195177853060d func114
def acc:aA E ⟨41,[.v kL,.c 42 []],[.bool],DF⟩:=aE (ah ZW aD) 0x60d func41
def ZQ:aA E ⟨11,[.v ip,.v eN,.v kL],[zq,aB],Dl⟩:=aE (ah acg (ah acf (ah ace (ah ab9 (ah Q0 (ah acc aD)))))) 0x677b18c73febb7e95d3b3a249372fb147b80513e233de7947242663d62a9d1511677f54dd058830338ddf58631ab0e77fa81abeee61e96ff9fef94e969ce4734237e9a022aad77438a3798c955b70b7ad012710abc894d2d57d83ef20a4a736b399e524c1df77790bfd5214e2da6eacf9db5712774b5cd062716dba0c4f3b2303f0760772262bf96e2542fa40aeda6599088d058345ee658f9e21dda457264054b1da8a0b49c7d5448172907759c57a78536db6c2860d func11
def Q4:aA E ⟨63,[.v eN,.v aB],[.bool],Ax⟩:=aE aD 0xd89480d660c5e9f759579d61bf8532f9214db060d func63
def Q8:aA E ⟨94,[.v ip,.v eN],[aB],Ay⟩:=aE (ah Q4 (ah Be aD)) 0x2e28060d func94
def Z5:aA E ⟨124,[.v ip,.v eN],[oc],Ee⟩:=aE (ah Q3 (ah Q2 (ah Q1 aD))) 0x378986f0f07e161bc26e28060d func124
def aaN:aA E ⟨213,[.v kL,.v aB],[aB],Au⟩:=aE aD 0x9f3f85cf6b0c414853060d func213
def Z4:aA E ⟨123,[.v lE,.v kL],[aB],xO⟩:=aE (ah J5 (ah aaN (ah QD (ah Fz aD)))) 0x1e5ec134f82c41aa06e4c9878b2f2b25acc7a6ef8f99cc5911cfa735238c3174344edba94f5b3638490c0f4c8f2fd70998c9b289d0f0a6db060d func123
def ach:aA E ⟨46,[.v ip,.v eN,.v kL],[aB],xQ⟩:=aE (ah Q8 (ah Z5 (ah Z4 aD))) 0xcffc00c7148536c2860d func46
def Q9:aA E ⟨95,[.v ip,.v eN,.v aB,.v aB],[bi],vd⟩:=aE (ah Ra (ah tD aD)) 0x346e480e2860d func95
def JU:aA E ⟨125,[.v eN,.v aB],[aB],q4⟩:=aE aD 0xc414853060d func125
def Qn:aA E ⟨164,[.v bi,.v bi],[cU,cU,aB],sO⟩:=aE (ah rD (ah Bg aD)) 0x5699f80d1eec097150bd924eb57b7e0810b977965f213bd417b6307c71a00e450883615928d97be4f301841b0d8c0fb737e2abf97673addc1efa06161f4793c1b95b1df7b488a0d4fff140f2e52b753060d func164
def Kg:aA E ⟨80,[.v bi,.v bi],[bi],sK⟩:=aE (ah tE (ah yC (ah qc (ah Qn (ah Bf aD))))) 0x14352382663baf7b2d8d482bfbe52b0f77e648441a437650dbc569171ac7ba4ba5a353060d func80
def aci:aA E ⟨47,[.v ip,.v eN,.v kL,.v aB,.v (.a6 .c7 qJ)],[(.st (.pr gD (.pr aB qI)))],Eh⟩:=aE (ah Q9 (ah Kg (ah JU aD))) 0x99cd41bd709549b1866c444fa10ba53722f023922cfd11d26e2975efeabd0717910112dbcaf4dee3ef3dbbf6052c008bc15e1a8441c2ebda7613f2c85cf188010512a4a9ca331e0762092122d889f9616663d9aeb4049682f25a3b92562e133620027dd15d954ce2d7bfea0e0b663cdd394a86788849af7bfede8fdbd7432dd9134a07e1b69e46d66f1f181f3abe0de8dd5d9b12acb4c52c67d3c1693b756ad1c467b793e67ce5863af4b4693b91f023c6c27b8980fff9fcb4ea881c783b5aa50fd33b98689712ae24356a946d613acaf9acc82d36b9bffb1e62b6f0f03ae424b4c0ed622d1a95c1a7234934232087608549f6f749d02b47ac3a131bf86526b03fdee6e4912baba8665d8a0e8c67d8c22779a2ff3ac8466e4185cf35c22dd76de884eeb3c4b549d31c4425ee01c9b7a4fe198b29e9b6a03c3f1adb5e2d34fb4a5142457c1b371e87b5abc1326e7529afabdd549a767002772a3a939e3ba48a957e3b664e8ec61819bcd9fdb21d9df616fd878c1c6c7a26ff16a5b9e0aed4fc7bdf283315d6c1f89a82d95cc3165e780b5a8a34194aa946ee42468b21fee6485a23532019f2ba57e62000cbb756741a71ce2a534df76b905d6b88cfe91ec8f4177fca82fd222f0a6c48e2860d func47
def Qg:aA E ⟨130,[.v bi],[cX],vc⟩:=aE (ah Kj aD) 0x70600d func130
def Z6:aA E ⟨126,[.v qJ,.v aB],[qL,.bool],AA⟩:=aE (ah Ki (ah yz (ah tD (ah Qg aD)))) 0x929a7639e5a093aee4cc4eb194843c29b060d func126
def abu:aA E ⟨285,[.v cU,.v cU],[aB],DS⟩:=aE (ah rD (ah JV aD)) 0xb1d628060d func285
def aaY:aA E ⟨242,[.v bi,.v bi],[aB,.bool],DZ⟩:=aE (ah qc (ah abu (ah Qn aD))) 0xa2dccca1eaab1a92bca6561ebc8434c7650dbc569171ac7ba4ba5a353060d func242
def JZ:aA E ⟨175,[.v bi,.v bi],[.bool],sS⟩:=aE (ah aaY aD) 0xe1dc28060d func175
def Z7:aA E ⟨127,[.v (.a6 .c7 bi),.v aB],[bi,aB],xT⟩:=aE (ah JZ aD) 0xde01aa5cd2d76243730cd4217f90efd50916f584b81ff6c3e2e7ead595aa920a5d148c39c6db26c64d92429b060d func127
def Ka:aA E ⟨26,[.v bi],[aB],u9⟩:=aE (ah qc (ah rD aD)) 0xd func26
def aaV:aA E ⟨228,[.v fy,.v fy],[lF],DY⟩:=aE aD 0x991f1c4b5d2359af0aa155ed3d69cd6217c51417e037f3380b4cead114a2c312d69c77118d0a65f2429b060d func228
def aao:aA E ⟨152,[.v cU,.v cU],[cU],DV⟩:=aE (ah vU (ah aaV (ah tB aD))) 0xe288c107e707dad256ecf62607a8de5b2b231883fd56f8c90554506d1a3ed3dbbe84c73753060d func152
def yB:aA E ⟨68,[.v bi,.v bi],[bi],jV⟩:=aE (ah tE (ah yC (ah qc (ah aao aD)))) 0x5bca1a1a1b6fd6b038bdec9319b6dca3b8a73546ea8e3770f3ce3386e406f7b2d8d449157e52b0f77e648441a437650dbc569171ac7ba4ba5a353060d func68
def Z8:aA E ⟨128,[.v bi,.v bi],[.bool],xU⟩:=aE (ah FK (ah yB (ah JZ aD))) 0xe1dc28060d func128
def acj:aA E ⟨48,[.v qJ],[gM,.bool],Az⟩:=aE (ah yB (ah Ka (ah Z8 (ah Z7 (ah Z6 aD))))) 0x286e015c5c76ab098089573c77d37811a1d0e2dcc683f91d4becfbf8bd0a3f7978854424fce3b6f599cde11bc5e2a86c5f323954db90809efe4c71c1eb0c35415e14c0d func48
def Z9:aA E ⟨129,[.v qJ,.v eN],[(.st (.pr gM (.pr aB qI)))],Ej⟩:=aE (ah JU aD) 0x30e9270c35817776ee3d4738a67ab9e5cef4f35be948beb48badf56e73f86d946cccff1a26c1f61178f4d124523363f16d2851b8aa48c71a85ed1b600a40200c948ac777552baa8f6c2b87fdc74306fd4738a8fddda959f755ad4fa46e4523ce29b6997b64843c29b060d func129
def aaO:aA E ⟨215,[.v cX],[.bool],Ed⟩:=aE aD 0xd func215
def abT:aA E ⟨327,[.m lF,.v fy,.v aB,.v cX],[.bool],Ai⟩:=aE aD 0xf0a0adeb50e6ebf2ad86f23894c490c05e54378a0ea15fd25fdc59f62befaf164192b53d914ea3ec848c6fcc1d07e5ff17f3048ebc29b6c38a1d func327
def abH:aA E ⟨310,[.v fy,.v fy],[lF,fy],DX⟩:=aE (ah abT (ah QY (ah J6 (ah QI (ah QH (ah vU aD)))))) 0x8018533076f68138afa4468455caba646cb0ef5eb57135662362eb2973e27ddf662dc5ad777b9f30707300b87b4fc6760442541cfdcc841408b7aa4b0073435a117078a8d19db7a041ff764ab4512376632f717034e2f76916e989ab7f9572c12fd09144376ae61f132820e232fbfd66ce941ce999e183ebce750674382ea6db060d func310
def abr:aA E ⟨283,[.v cU,.v cU],[cU,cU],DT⟩:=aE (ah rD (ah abH (ah tB (ah Bj (ah JV (ah FA (ah Bh (ah Bf aD)))))))) 0x30e09c6ce10f7629603d184fa07b598bb7eea1a2f7a71ee86ac9b72798e75c9567854fcc6cbe5057531e509956c92d833ce44cdb0cfcaeb9c2fe9f56e5ac9a0fe103d84f58ba6de0d646b9dc503b1eda889846cd2c3ca4648bc569171ac7ba4ba5a353060d func283
def abF:aA E ⟨309,[.v cU,.v cU,.v aB],[cU,aB,.bool],D2⟩:=aE (ah rD (ah abr (ah JW (ah Bg aD)))) 0x7e8da900057e38b6338b88ce4bab90dd5954f761c98bff470f1566ea6c2860d func309
def abp:aA E ⟨281,[.v bi,.v bi,.v aB],[cX],D6⟩:=aE (ah qc (ah rD (ah abF (ah Qt (ah Bj aD))))) 0x22cea627a5bc3cf8668f1ec726fb9550b02ba73d3b961a4833f32a792d67b8db2a141d202d2ede8d4c2860d func281
def aaP:aA E ⟨216,[.v bi,.v bi],[cX],xP⟩:=aE (ah abp aD) 0xe1dc28060d func216
def acu:aA E ⟨81,[.v bi],[bi],D1⟩:=aE (ah tE (ah qc (ah Qo aD))) 0x2771e6eff1011974c90a38b2ee992d3a3536c0d func81
def FH:aA E ⟨29,[.v bi,.v bi],[bi],sN⟩:=aE (ah acu (ah Kg aD)) 0x47b452bee004bcf2b753060d func29
def aan:aA E ⟨151,[.v cX,.v cX],[bi],Aw⟩:=aE (ah yB (ah tD aD)) 0x648060d func151
def Kf:aA E ⟨65,[.v kK],[bi],sT⟩:=aE (ah FH (ah aan aD)) 0x5ec6547812c55d1cccdd4c0d func65
def aab:aA E ⟨131,[.v Cx,.v qJ,.v eN,.v aB],[(.osl cX)],vi⟩:=aE (ah yB (ah Kf (ah FH (ah tD (ah aaP (ah aaO aD)))))) 0x9359cbdc4041679b27a7b8e3a5e477c3e706aa3dc636352a2892be3ac84f784776a51e74d01df92ec712630c79c7aaf8fe27188cf11fbbf10cd2e9de355dd2c05c9e30e06c73502f869d4a16f8ba1a19a9c3143eb87085ee3fa24140a9f0323d691eb3090f3c666e8bd7cbaa909a8b3a40dfde2a85c83df4eda9664b9dec1afb1d4726300f89701337530e2860d func131
def aac:aA E ⟨132,[.v Cx,.v aB,.v aB],[bi],vh⟩:=aE (ah Kg (ah yB (ah tD aD))) 0x16e4a95a6d5179be45717353de6e6cb27a789fe28f446daae977becb2f0bf4c9e393777be1e35d4834f0744a2221a5eacedbf9045e25d05c5bb2b118c022bb69d113757d8c4d659e7b5ed625fcd043398d10aa56a8ca84936e8c98a48e46cd89dc6fc01ecb50f9e28dde8030c8aea0190f77c35ae3bb0bb96acccdd4c2860d func132
def ack:aA E ⟨49,[.v qJ,.v eN],[(.st (.pr gD (.pr aB qI))),GR,.bool],xS⟩:=aE (ah FH (ah yz (ah aac (ah aab (ah Qg (ah Z9 (ah JU aD))))))) 0x1faeda5578c63bf2ce499b7035ac67b129a8291b82076c2bf8bcd726c2abeea8d168e03562209936454c76fd0c1bb43ff6c1177dcfdd136b8fdd9c1f3284bb2e8bbab5e680705f5eb000b204a630dd2e0985688494bfc427e0c61aadebf8d721fafd8fa7025bc76f87da83c3a1fbed92a605da1c3373755841ffb0f15906cdca9c672ee9acacc34921dec58d67f7918f5bcc1efc8a0ea0812f2a91bce4c4562cd36da2f37d66a5a7274e43c5c6a71b90ccf2fd96aa6d322812cb2e1093546e10d4ff17997fb80ee6e6e56a8bf8eccdee75cdf13349b53e1acbd5c7cd5fdaea45f6861677acc06f367d386ef4a244a74359afd89b9444041fb45bd73902c0cf28f0499e4cb8eabf17257add45ea545e5374c4655e95f49dbc9cf2b2787d6b20cacb4deda272f1a72e5d04f43c62bc6cb24b27ccaae39318d7f9a801a4e9bc19d616ef25da6a3ecac18e9e7cbc7441085ad63d3ea4ffa6d6cd78c3bca2559b74cd6b0fea2572030688f4d48e6730692512844a6c0edbc3bd62b2c5ea896ca0e0e5edd686352b2a4a652ccf6c2db3841d59ed8437334f2c9252a5813916c65a3c3d83125ff49b060d func49
def acm:aA E ⟨50,[.v eN,.v (.a6 .c7 Cx),.v aB],[GQ],Ei⟩:=aE aD 0x2baed8599d6aaea2c3d296b35625fc76031350393741c01449c7f1d904f9d34fc3feea03ad6914c95a023bbb35d537b8cc5e377ae078084c85bb5a559e444c92273d7a5f7a626c7bff5878d2bbf49561f23f7e5d86c74a7bc48211e39c3225f11377b28e873b1594846b50785bbbce5a4297cd4f4795550350e416fd2baae4466259609faa201ac40e20c634fc6de76e9bc72f9d4e88183d0b85641b34f02f4368aa3c034fc877bd175f26f94c5ae90fed073aae5aa1fcf13660a5818d2b56bfa75ff571a05fe21ad0050f1163e8fa9d846f86608eb0af3a89379e255581df4792c8b09f87a1c6d17bd91f21b284d3f9b1b2a30a726bf4bdd585aac507ede3426bdc0578f22a9b9a5bc985108872863c4f9d2516947190b026e417da9d3520f811fffea6eb023cc66e6d800e0fab9191c22fb94c5bd15c9ba3cbeedbf728e6eff761bb874e9744b646ef7a0c29ea13dee08786819a86e9f28939688ea80d24e0baefc779c621d65697c88df96dfc1190fbfb76b1a617e8a1192d064ce2be355c572508a13c046d2693f98553a24a786ef817d3361d9b057ae683f7c7169241c0cf658e13585cd7807c92264d9dad7d2932af6219df3a8af4631561bb08db6d644633625815c8f9cc1766770e1d5ca48536c2860d func50
def Z1:aA E ⟨12,[.v ip,.v eN,.v kL],[zq,aB],vf⟩:=aE (ah acm (ah ack (ah acj (ah aci (ah ach aD))))) 0xf2f1112d7c4eeba12535f2a4d350869664cf067e8ea4642a8df82efe32fffa6af373a2ec8f2394b0d2cc99d844b3e544a951d1ad88eebb83b1904644334816e531c5f08f2da780b353976b085aef0ac93197b296143cca8bdd23ad73a5039865dd3b875c1455d51d825cb5b5bde887769aed5c988f4fd669c82d27a0d8c047cf6e5216f0a6db6c2860d func12
def aa3:aA E ⟨25,[.v eN,.v eN],[.bool],DO⟩:=aE aD 0x620a429b060d func25
def aco:aA E ⟨57,[],[uB],NF⟩:=aE aD 0x1922242481f808 func57
def aaj:aA E ⟨145,[.v eN],[.bool],HN⟩:=aE aD 0x6ba8406adebe0e457cfca803730dfab114c8ffaf0a6c0d func145
def Q7:aA E ⟨91,[.v mw],[gM,.bool],z5⟩:=aE aD 0xc302d214835e59c33ecf5c889fdad5548253bbaa9e0008a59765fa168b78f7c6be4461eb658c806f73051e642149806e533302c922fe578536c0d func91
def aak:aA E ⟨146,[.v mw,.v eN],[.bool],Do⟩:=aE aD 0xc64b41340b9ba1fa37e849f6b4d70853c93229cdd3c1682924e1bf1d173eab756259241effc1a8258147968f010a29b060d func146
def Kd:aA E ⟨60,[.v mw],[Cz],xx⟩:=aE (ah pi aD) 0xfa856eb86fb21de77a857001e286685c0e87254506c5130ed865cb76cff709115622d2991ff2578536c0d func60
def Kc:aA E ⟨59,[.v mw],[aB],qV⟩:=aE (ah Q7 (ah Ke (ah yA (ah Kd (ah vS (ah aak (ah aaj aD))))))) 0x628d0a0687afe1cf0c1d85dabb9570da4ab526cca7e92e48a0c96ff0de32fb7937b054bc8304f41a6c650aeee14c948776881bbe89f0904e1825ad7931391e9259175c244eb4043c805a6c0d func59
def Qw:aA E ⟨19,[.v mw],[zn,aB],uY⟩:=aE (ah Ke (ah yA (ah Kd (ah Kc aD)))) 0x2aba805712e59fcc08b81856eaab863ff361f2eea02073e38eea9a6a2ebad14b6e33244aae45c3fa536f6693878536c0d func19
def aal:aA E ⟨15,[],[.bool],DQ⟩:=aE (ah aco (ah aa3 (ah Qw (ah ZQ aD)))) 0x84c21c1c17818 func15
def aam:aA E ⟨150,[.v eN,.v aB,.v aB],[.bool],Ef⟩:=aE aD 0x1285ec7824c2860d func150
def acq:aA E ⟨64,[.v mw],[.bool],Ek⟩:=aE (ah aam aD) 0xc6440bec08e797d4c76c91160bef021277536c9a960a46986ed844658c9cc843f8fe0d1f202a5a6c0d func64
def J2:aA E ⟨20,[.v mw],[aB],q3⟩:=aE (ah Kf (ah acq (ah Q4 (ah yz (ah Ka aD))))) 0x319102fb6326b5358af59cb81fc93a45d9ed4b5d88a887efa6275a022677a48b05a6c0d func20
def acr:aA E ⟨66,[.v mw],[od,od],Eg⟩:=aE (ah FK (ah tD aD)) 0xb49fa863cb848e2f71c8c2c894ab8ef0889f284d795c59466a1e93133f1f5906687120cf2124460fb9050280c80d7b0640c19c5842704b0825fb99e97c32d8b2230efff1335f4444a3782f4cda063828006c8e1d7f5fe093dda40320ce43aaa52bb186c5e44e90a21a09885d01ee9d08d0d117afe05da0f4131f278f34e228c9d166b2f17282e91d81bb14a85d995e84a5e5d76f83d02ef527870864bc9b3d6760396d8fa1c7ba711ed45a158c9be436578536c0d func66
def Q5:aA E ⟨67,[.v aB,.v aB],[oa],Av⟩:=aE aD 0x8542b848060d func67
def QA:aA E ⟨21,[.v mw],[oa,aB],sU⟩:=aE (ah Q6 (ah yB (ah Q5 (ah acr (ah J2 aD))))) 0x2cd9854da3319c45c5d0f87f8aa058a75afcb18cb869737dbcbb8f9fa19b722b5c1086149d292c8c1b8d8f47050374cdc62a80b031450a1e061c2270bca15ad3aad704ea790dba95963b69a643b3ab25d86660997d604ea62f00f848ac1585b0f49b57eb6c758eb9acacc7f92461274f9444ba62c35ddaa6181a1fb759889e375d653a4a92b93a46dd4d7989b3e96671eec48b63ee6c824ecb6a4ec2e24cc8f0d207b870cd22d9e2f0a6db6c0d func21
def acv:aA E ⟨82,[.v ip,.v eN],[oa,aB],uP⟩:=aE (ah Q0 (ah JX (ah Qf aD))) 0xe249ee171d44ef370222a0934e40058285dad3b84d67a45a39f5b6ca49c35f3bb6605542d573ad2097206fefecfb904ec33036ab402216dfeec5855616e2c982d8af04d0af341fc5798d2b1906df3012f8a2f68525e65c68909d32178bac661e6861dc2a81def2cb09f6946c23a58ef9566ea6db060d func82
def acA:aA E ⟨92,[.v mw,.v aB],[(.mp bi)],xB⟩:=aE (ah yD (ah pi aD)) 0x332a2c8413172ee1b2e8ac2652ceb8b5d9bb1dc4677a42997c843c29b060d func92
def acB:aA E ⟨93,[.v (.a6 .c7 bi)],[bi],C5⟩:=aE (ah Bl (ah FE (ah FD (ah Bk (ah vT aD))))) 0x5bff80774efbf19ff433df497ecfbb67efa8e6faf899326ef246bf13897c2de08f337ea1f5ef478579c75592d3623c0711d75923f4db3be199330a8cfacb4a59a4a4678536c0d func93
def acz:aA E ⟨89,[.v (.e1 .c7 bi),.v (.e1 .c7 bi),.v bi,.v (.ptr .c7 aB),.m (.optr od)],[],sE⟩:=aE (ah vV aD) 0x69ded764bb9e957df7542232c227cae0de1bb032c87bd3b29d736b8601968a5ef282754abe668deae3fae037921aac98dfb2d13027aa428cc4fb4b7325db0013bf2955bc53bc89f45aa0df4be7e2bd4ee85ba8b2f69a1e89728d98c21ee127b21874fa5b0e2860d func89
def TJ:js:=⟨34,[.v mw],[oa,aB],sD⟩
def QZ:aA E TJ:=
 .q (ah acB (ah acA (ah Q7 (ah Kd (ah Kc (ah acz aD)))))) (.k [0] (.n (.n (.n (.n (.n (.n (.n (.t .none (.n (.o (.k [1,8,41] (.p ⟨[ma 2,ma 5,ma 6,(7,.s (.da 89 [(.ref 5 []),(.ref 6 [])])),ma 40,B1 42],[(2,sh),(5,(.optr aB)),(6,(.optr od)),(40,Cz)]⟩ (.x 0 ⟨[ma 2,ma 5,ma 6],[(2,sh),(5,(.optr aB)),(6,(.optr od))]⟩) (.n (.n (.t (.x [42] ⟨[ma 2,ma 5,ma 6,(7,.s (.da 89 [(.ref 5 []),(.ref 6 [])])),ma 40],[(2,sh),(5,(.optr aB)),(6,(.optr od)),(40,Cz)]⟩) (.o (.n (.t .none (.d [.a,.a,.a,.a,.a,.c [1666] [1664],.c [1666] [1664,1665]]) (.n (.n (.t .none (.t .none (.d [.a,.a,.a,.a,.a,.a,.c [2210] [2208],.c [2210] [2208,2209]]) .l) .l)))))) .l))))))) (.n (.t .none (.n (.o (.k [96] (.p ⟨[ma 2,ma 14,(95,.s (.ref 6 [.deref])),B1 97],[(2,sh),(6,(.optr od)),(14,sh)]⟩ (.x 2 ⟨[ma 2,ma 14],[(2,sh),(14,sh)]⟩) (.n (.n (.t .none (.o (.n (.d [.b [450,464],.b [464],.b [192],.b [192],.c [3362] [3360],.c [3392,3362,464,466] [3392,451],.b [450,464],.c [3392,464,466] [448,3392,3393]]))) .l))))))) .l))))))))))) func34 call34 [(1,L7),(2,oa),(21,oa),(5,aB),(28,oa),(32,od),(6,od),(8,gD),(12,(.e1 .be bi)),(13,(.e1 .be bi)),(14,oa),(94,oa)] [(8,37000),(12,52),(13,69)]
def acw:aA E ⟨84,[.v bi],[bi],C1⟩:=aE (ah FC (ah vT aD)) 0x93c00cf192331ba6c0d func84
def abC:aA E ⟨30,[.v ip,.v mw],[bi,aB],uX⟩:=aE (ah Kh (ah FJ (ah acw (ah yD (ah acv (ah Kc (ah QZ aD))))))) 0xcaf688eeeba1443cabca601a0290a245b7031871f1f9fb3a1e44542c1d32a9cdc24b72236e5847ac708198817c5c93b639c4725dfbc0bf74afb7b55c833de48eb9987a9291148c414e29c9c52d1b62caa0bdbab64829b3c29b6db060d func30
def ab7:aA E ⟨36,[.v ip,.v eN],[oa,aB],ve⟩:=aE (ah Q9 (ah Q8 (ah Q5 aD))) 0x2f1f47888af5e261328a69dd708c31ed426bf07301fba8cd70e0d4af9af313b8d36ee3dd89eec7de89049d96d49d8a44a291e1a41b70e1b245a878536db060d func36
def acx:aA E ⟨87,[.v zo,.v zo],[bi],H6⟩:=aE (ah Ki (ah FH (ah JZ aD))) 0x9572c5c52455f8e59ca036bdd2d6b5ceba4c8e6d58b7e9f6a567dd55951a91b9148c3846da65ed921543c29b060d func87
def abG:aA E ⟨31,[.v ip,.v mw],[bi,aB],vg⟩:=aE (ah acx (ah ab7 (ah QA (ah J2 aD)))) 0x1e463e03d08fff000abe1f01e847ff84f8989f0f1920dc1ee28060d func31
def aaZ:aA E ⟨243,[.v fy,.v fy],[.bool],H4⟩:=aE aD 0x620a429b060d func243
def aaq:aA E ⟨176,[.v cU,.v cU],[.bool],H2⟩:=aE (ah aaZ aD) 0xb1d628060d func176
def acy:aA E ⟨88,[.v bi,.v bi],[.bool],H3⟩:=aE (ah aaq aD) 0xe1dc28060d func88
def QW:aA E ⟨32,[.v bi,.v bi],[.bool],u5⟩:=aE (ah acy (ah qc aD)) 0xe1dc28060d func32
def abW:aA E ⟨33,[.v mw],[zn,aB],xR⟩:=aE (ah Kf (ah tD (ah Ka (ah J2 aD)))) 0x3a8959235241a585fa5467bb409ce6f23441201255b25ae3e8e3fde942e8f52e85802b67dcf020954a097b354c42fda209ea2b74dbf9a600ae0e7c4d95533905bad14b6e3323f22e1eb1997b3482bc29b6c0d func33
def ab4:aA E ⟨35,[.v zo,.v zo],[.bool],xH⟩:=aE (ah QW aD) 0x9e3707c6c38049878ff2d1e015453060d func35
def wB:js:=⟨8,[.v kK,.v aB,.v aB],[.bool],H5⟩
def act:aA E wB:=aE (ah ab4 (ah QZ (ah abW (ah QW (ah abG (ah abC (ah QA (ah Qw (ah aal (ah Z1 (ah ZI aD))))))))))) 0x37aa3e03d08fff0019641f01e847ff800714afa61da3a44f9289f2110e3a21c64178a8c71307e1e02860d func8
end
def bc (a:X):Z:=4294967296^a
def ar:aj0->Z
 |[]=>0
 |x::a=>x+4294967296*ar a
def a2 (b:aj0):Prop:=∀a∈b,0<=a/\a<4294967296
def a2.nil:a2 []:=λ_ a=>by cases a
theorem a2.cons:a2 (a::c)↔(0<=a/\a<4294967296)/\a2 c:=by
 constructor
 ·exactλe=>⟨e a (mr ..),λd b=>e d (g3 _ b)⟩
 rintro⟨f,g⟩ d b;rcases fG.1 b with rfl|b
 ·exact f
 exact g d b
def a2.append:a2 (c++f)↔a2 c/\a2 f:=by
 constructor
 ·exactλd=>⟨λb a=>d b (n5 _ a),λb a=>d b (lD _ a)⟩
 rintro⟨e,g⟩ b a;rcases ha.1 a with a|a
 ·exact e b a
 exact g b a
def a2.snoc (b:a2 c) (d:0<=a) (e:a<4294967296):a2 (c++[a]):=
 a2.append.2 ⟨b,a2.cons.2 ⟨⟨d,e⟩,a2.nil⟩⟩
def a2.take {a:aj0} (b:a2 a) (d:X):a2 (a.take d):=λe c=>b e (Co c)
def a2.drop {a:aj0} (b:a2 a) (d:X):a2 (a.drop d):=λe c=>b e (List.mem_of_mem_drop c)
theorem a2.nk (a:X):a2 (bJ a (0:Z)):=λc b=>by grind
def a2.set {c:aj0} (d:a2 c) {e:X} {b:Z} (g:0<=b) (h:b<4294967296):a2 (c.set e b):=λf a=>by
 rcases List.mem_or_eq_of_mem_set a with a|rfl
 ·exact d f a
 omega
def a2.get (a:a2 c) {n:X} (b:n<c.length):0<=c[n]/\c[n]<4294967296:=a _ (cG b)
theorem hh (a:X):0<bc a:=mS ab
theorem j3 (a:X):bc (a+1)=4294967296*bc a:=by unfold bc;omega
theorem wz (a b:X):bc (a+b)=bc a*bc b:=mn ..
theorem Ce:bc 0=1:=rfl
theorem rO (a b:aj0):ar (a++b)=ar a+bc a.length*ar b:=by
 induction a with
 |nil=>simp[ar,Ce]
 |cons d a c=>
  grind [amC,j3,ar]
theorem qp (a:aj0) (b:Z):ar (a++[b])=ar a+bc a.length*b:=by grind [rO,ar]
theorem gH {l:aj0} (a:a2 l):0<=ar l:=by
 induction l with
 |nil=>exact akY _
 |cons c l b=>
  grind [a2.cons,ar]
theorem iB (a:a2 c):ar c<bc c.length:=by
 induction c with
 |nil=>decide
 |cons d c b=>
  grind [amC,j3,a2.cons,ar]
theorem jG (a:b<c.length):ar (c.take (b+1))=ar (c.take b)+bc b*c[b]:=by grind [qp,aki,alF,aj5,b0]
theorem qq (b:aj0) (a:X) (c:a<=b.length):ar b=ar (b.take a)+bc a*ar (b.drop a):=by grind [rO,aki,alF,alu]
theorem nW (a:b<c.length):ar (c.drop b)=c[b]+4294967296*ar (c.drop (b+1)):=by rw[wI a];rfl
theorem tU (a:X):ar (bJ a (0:Z))=0:=by
 induction a with
 |zero=>rfl
 |succ a b=>grind [ar]
theorem rP (d:b<c.length) (a:Z):ar (c.set b a)=ar c+bc b*(a-c[b]):=by
 induction c generalizing b with
 |nil=>grind
 |cons f c e=>
  grind [Ce,j3,ar]
def vq:X->X->aj0
 |0,_=>[]
 |f+1,a=>if a=0 then[] else((a %4294967296:X):Z)::vq f (a/4294967296)
def e7 (a:X):aj0:=vq (Nat.log2 a+1) a
def fx (b:aj0):Prop:=∀a,b.getLast?=Y a->a≠0
theorem Ws:∀{a n:X},n<2^a->a2 (vq a n)/\ar (vq a n)=n/\fx (vq a n):=by
 intro a
 induction a with
 |zero=>
  intro n b;obtain rfl:n=0:=aa;exact⟨a2.nil,bo,λc b=>by cases b⟩
 |succ a i=>
  intro n b;unfold vq;split
  ·rename_i g;subst g;exact⟨a2.nil,bo,λc b=>by cases b⟩
  rename_i k;obtain⟨h,j,d⟩:=i (n:=n/4294967296) aa;refine⟨a2.cons.2 ⟨⟨aa,aa⟩,h⟩,?_,?_⟩
  ·grind [ar]
  intro c f;cases e:vq a (n/4294967296) with
  |nil=>
   grind [List.getLast?_singleton,alX,ar]
  |cons m l=>
   rw[e,List.getLast?_cons_cons] at f;rw[e] at d;exact d c f
def Il (a:X):a2 (e7 a)/\ar (e7 a)=a/\fx (e7 a):=Ws Nat.lt_log2_self
theorem q9 (a:X):a2 (e7 a):=(Il a).1
theorem sX (a:X):ar (e7 a)=a:=(Il a).2.1
def EA (a:X):fx (e7 a):=(Il a).2.2
theorem fx.tail (b:fx (a::c)):fx c:=λe d=>by
 cases c with
 |nil=>cases d
 |cons f c=>exact b e (by grind)
theorem fx.zero (e:a2 c) (b:fx c) (d:ar c=0):c=[]:=by
 induction c with
 |nil=>rfl
 |cons h c g=>
  obtain⟨⟨i,j⟩,a⟩:=a2.cons.1 e;have k:=gH a;simp only[ar] at d;have f:h=0:=aa;have:=g a b.tail aa;subst this;subst f;exact absurd rfl (b 0 bo)
theorem fx.uniq:∀{a b:aj0},a2 a->a2 b->fx a->fx b->ar a=ar b->a=b
 |[],b,_,e,_,g,c=>(fx.zero e g (by rw[<-c];rfl)).symm
 |a,[],d,_,f,_,c=>fx.zero d f (by rw[c];rfl)
 |x::a,j::b,d,e,f,g,c=>by obtain⟨⟨k,l⟩,h⟩:=a2.cons.1 d;obtain⟨⟨m,n⟩,i⟩:=a2.cons.1 e;simp only[ar] at c;have o:x=j:=aa;have:=fx.uniq h i f.tail g.tail aa;grind
def Wv (a:a2 c) (d:fx c) (e:ar c=b):c=e7 b:=
 fx.uniq a (q9 b) d (EA b) (by rw[e,sX])
def fx.eq (a:a2 c) (b:fx c):c=e7 (ar c).toNat:=
 Wv a b (by have:=gH a;omega)
theorem fx.low (b:a2 c) (f:fx c) (a:c≠[]):bc (c.length-1)<=ar c:=by have d:=List.dropLast_concat_getLast a;have i:=f (c.getLast a) (List.getLast?_eq_some_getLast a);have j:=b _ (List.getLast_mem a);rw[<-d,qp];have k:=gH (l:=c.dropLast) (λh g=>b h (List.dropLast_subset _ g));have e:1<=c.getLast a:=aa;have m:=mR e (gB (hh c.dropLast.length));grind
theorem adb (e:b<d):bc b<bc d:=by obtain⟨a,rfl⟩:∃a,d=b+(a+1):=⟨d-b-1,aa⟩;rw[wz,j3];have f:=hh a;have c:=hh b;have g:1*bc b<(4294967296*bc a)*bc b:=zd aa c;grind
theorem rG {m n:X} (b:m<=n):bc m<=bc n:=by
 rcases cR m n with a|a
 ·exact gB (adb a)
 grind
theorem vr (f:(b:Z)<bc d):(e7 b).length<=d:=by
 by_cases e:e7 b=[]
 ·grind
 have a:=fx.low (q9 b) (EA b) e;rw[sX] at a;rcases cR d (e7 b).length with c|c
 ·have:=rG (m:=d) (n:=(e7 b).length-1) aa;omega
 omega
theorem NY (a:X):(a:Z)<bc (e7 a).length:=by have:=iB (q9 a);grind [sX]
def N0:e7 0=[]:=rfl
theorem Wu:e7 b=[]↔b=0:=by
 constructor
 ·grind [sX,ar]
 rintro rfl;rfl
def kD (a:aj0):aj0:=e7 (ar a).toNat
theorem SZ (f:a2 c) (j:b<=c.length) (h:∀a,b<=a->(i:a<c.length)->c[a]=0) (g:fx (c.take b)):c.take b=kD c:=by have d:ar c=ar (c.take b):=(by have e:c.drop b=bJ (c.length-b) 0:=(by refine wJ ac λa d e=>?_;grind);grind [qq,tU]);rw[kD,d];exact fx.eq (f.take b) g
def Lj (a:aj0):a2 (kD a):=q9 _
def SY (a:aj0):fx (kD a):=EA _
theorem Lk (a:a2 c):ar (kD c)=ar c:=by have:=gH a;grind [sX,kD]
theorem SX (a:a2 c):(kD c).length<=c.length:=by have b:=iB a;have:=gH a;exact vr aa
def Xt {b c:bn i} (f:b.length=c.length) (e:∀a,a<b.length->b[a]?=c[a]?):b=c:=by
 apply il;intro a;rcases cR a b.length with d|d
 ·exact e a d
 rw[pE d,pE aa]
def LQ (a c:aj0) (o:a.length<4611686018427387904):DO (a,c,())=Y (a==c,()):=by
 rw[<-bN];unfold DO;simp only[bZ,bX,bv];refine⟨λd=>?_,λd=>?_⟩
 ·simp at d;have:a≠c:=λf=>d (by rw[f]);simp[this]
 simp at d;have m:a.length=c.length:=aa;refine ae.for (i0:=0) a.length (λe _=>∀b,b<e->a[b]?=c[b]?) rfl ac (c5 _) ?_ ?_
 ·intro e n _ k g;simp only[bZ,bX,bv,cC];refine⟨λ_=>⟨k,aa,λl=>?_,λj=>?_⟩,λh=>?_⟩
  ·simp at l;have:a≠c:=λf=>l (by simp[f]);simp[this]
  ·refine⟨iS aa,λb p=>?_⟩;rcases cR b e with i|i
   ·exact g b i
   obtain rfl:b=e:=aa;simp at j;rw[bk k,bk aa,j]
  simp at h;omega
 intro n g;simp only[bZ,bX,bv];refine⟨λh=>by simp at h,λ_=>?_⟩;simp[Xt m g]
theorem tQ {a:bn i} (c:b<a.length):a.take b++[a[b]]=a.take (b+1):=by rw[iG,bk c];rfl
theorem Bo:c.Pairwise (· < ·)↔∀d,(e:d+1<c.length)->c[d]<c[d+1]:=by
 constructor
 ·intro e d k;exact(hY.1 e) d (d+1) aa k aa
 intro e;rw[hY];have m:∀b a (f:a<c.length) (g:a+b+1<c.length),c[a]<c[a+b+1]:=by
  intro b
  induction b with
  |zero=>intro a f g;exact e a g
  |succ b l=>
   intro a f g;have i:=l a f aa;have j:=e (a+b+1) aa;exact aoF i j
 intro a h f g n;obtain⟨b,rfl⟩:∃b,h=a+b+1:=⟨h-a-1,aa⟩;exact m b a f g
def LG (b:aj0) (r:b.length<4611686018427387904):Ad (b,())=Y (bu (b.Pairwise (· < ·)),()):=by
 rw[<-bN];unfold Ad;simp only[bX];by_cases k:b.length=0
 ·have:b=[]:=anE.1 k;subst this;refine aky (λo=>o=(1,())) (λ_=>0) rfl ?_;rintro _ rfl;simp[bv]
 refine ae.for (i0:=1) b.length (λc _=>∀a,(j:a+1<b.length)->a+1<c->b[a]<b[a+1]) rfl (λa _ j=>by omega) aa ?_ ?_
 ·rintro c _ p l e;simp only[bZ,bX,bv,cC];have i:bK.wrap ((c:Z)-1)=((c-1:X):Z):=(by rw[cq aa aa];omega);rw[i];refine⟨λ_=>⟨l,?_⟩,λf=>?_⟩
  ·rw[cC];refine⟨aa,?_⟩;refine⟨λm=>?_,λh=>⟨iS aa,λa d q=>?_⟩⟩
   ·have:¬b.Pairwise (· < ·):=λn=>by
     have:=Bo.1 n (c-1) aa;simp only[(aa:c-1+1=c)] at this;simp at m;omega
    simp[this]
   rcases cR (a+1) c with g|g
   ·exact e a d g
   obtain rfl:c=a+1:=aa;simp at h;exact h
  simp at f;omega
 intro s e;simp only[bZ,bX,bv];refine⟨λf=>by simp at f,λ_=>?_⟩;have:b.Pairwise (· < ·):=Bo.2 (λa d=>e a d d);simp[this]
theorem iy (b:bn i) (a:X):aj b (a:Z)=b[a]?:=by unfold aj;simp
section
def qt (a:aj0) (c:Z):Prop:=a.Pairwise (· < ·)/\∀b∈a,0<=b/\b<c
theorem ae.count {g:i->bw (i⊕q)} {f:q->Prop} (d:i->Z) (c:X) (e:X->i->Prop) {i0:X} {j:i} (p:d j=(i0:Z)) (o:e i0 j) (l:i0<=c) (s:∀a b,i0<=a->a<c->d b=(a:Z)->e a b->ae (g b) (λ|.inl m=>d m=((a+1:X):Z)/\e (a+1) m|.inr h=>f h)) (u:∀b,d b=(c:Z)->e c b->ae (g b) (λ|.inl _=>b7|.inr h=>f h)):ae (jt.loop g j) f:=by
 refine aky (λb=>∃a:X,i0<=a/\a<=c/\d b=(a:Z)/\e a b) (λb=>c-(d b).toNat) ⟨i0,bd _,l,p,o⟩ ?_;rintro b ⟨a,r,l,n,t⟩;rcases cR a c with k|k
 ·refine(s a b r k n t).mono ?_;grind
 grind [mono]
open Classical in
theorem UY (b:aj0) (d:Z) (u:b.length<4611686018427387904):Dc (b,d,())=Y (bu (qt b d),()):=by
 rw[<-bN];unfold Dc;simp only[bX];refine ae.count (λi=>i.2.1) b.length (λa i=>i.1=(if a=0 then-1 else b.getD (a-1) 0)/\(b.take a).Pairwise (· < ·)/\∀e∈b.take a,0<=e/\e<d) (i0:=0) rfl ⟨bo,ac,ac⟩ (c5 _) ?_ ?_
 ·rintro a ⟨h,x,_⟩ _ n j ⟨f,r,m⟩;simp only at j f;subst j;simp only[bZ,bX,bv,cC];have v:∀e∈b.take a,e<=h:=by
   intro e q;rw[f];obtain⟨y,p,rfl⟩:=hG.1 q;simp only[gK] at p;have o:a≠0:=aa;rw[aw o];grind [aj2,cm,b0]
  have w:-1<=h:=by
   rw[f];by_cases g:a=0
   ·omega
   rw[aw g];simp only[akG,bk (aa:a-1<b.length),us];have:=m (b[a-1]) (hG.2 ⟨a-1,by grind,ac⟩);omega
  have s:(b[a]<=h\/d<=b[a])->¬qt b d:=by
   rintro c ⟨z,A⟩;rcases c with c|c
   ·rw[f] at c;by_cases g:a=0
    ·grind
    rw[aw g] at c;grind [aj2,b0]
   grind [b5]
  refine⟨λ_=>⟨n,λk=>⟨λl=>?_,λl=>?_⟩,λk=>?_⟩,λt=>by grind⟩
  ·grind
  ·simp at k l;refine⟨iS aa,?_,?_,?_⟩
   ·grind
   ·grind [cB,tQ]
   grind [tQ,cB]
  grind
 simp_all [bZ,bv,hm,qt]
theorem LS (a b:Z):uR (a,b,())=Y (bu (a<b),()):=by grind [uR,su]
theorem Tn (a:Z) (b:0<=a) (c:a<18446744073709551616):bE.wrap a=a:=by unfold alD;rw[aw (by simp[aoG])];show a %18446744073709551616=a;omega
theorem LI (b:aj0) (e:Z) (B:b.length<4611686018427387904) (D:b.Pairwise (· < ·)):ae (u1 (b,e,())) (λv=>v.2.1=bu (e∈b)):=by
 unfold u1;simp only[bX];refine cx (P:=λu=>∃a:X,u.1=(a:Z)/\a<=b.length/\(∀c,(f:c<b.length)->c<a->b[c]<e)/\(∀c,(f:c<b.length)->a<=c->e<=b[c])) ?_ ?_
 ·refine aky (λg=>∃a d:X,g.1=(a:Z)/\g.2.1=(d:Z)/\a<=d/\d<=b.length/\(∀c,(f:c<b.length)->c<a->b[c]<e)/\(∀c,(f:c<b.length)->d<=c->e<=b[c])) (λg=>(g.2.1-g.1).toNat) ⟨0,b.length,bo,bo,c5 _,bd _,λc _ f=>by omega,λc j h=>by omega⟩ ?_;rintro⟨t,E,_⟩ ⟨a,d,rfl,rfl,A,o,j,h⟩;simp only[bZ,bX,bv];refine⟨λi=>?_,λn=>?_⟩
  ·have i:a<d:=(by grind);have ao:bK.wrap ((a:Z)+d)=(a:Z)+d:=cq aa aa;rw[ao,Tn _ aa aa];have s:eJ bE ((a:Z)+d) 1=Y (((a+d)/2:X):Z):=by
    unfold eJ;rw[ax aa];congr 1;show((a:Z)+d).fdiv (2^min 1 64)=_;grind
   rw[s];simp only[bv];have m:bK.wrap (((a+d)/2:X):Z)=(((a+d)/2:X):Z):=cq aa aa;rw[m,cC];refine⟨aa,?_⟩;rw[LS];simp only[bv,bZ];have y:(a+d)/2<b.length:=aa;refine⟨λk=>?_,λk=>?_⟩
   ·have k:b[(a+d)/2]<e:=(by grind);rw[iS aa];refine⟨⟨(a+d)/2+1,d,bo,bo,aa,o,λc l p=>?_,h⟩,aa⟩;grind [aoF,aj2,cm]
   have k:e<=b[(a+d)/2]:=(by grind);refine⟨⟨a,(a+d)/2,bo,bo,aa,aa,j,λc l p=>?_⟩,aa⟩;grind [aj2,cm]
  grind
 rintro⟨t,_⟩ ⟨a,rfl,z,j,h⟩;simp only;have C:(∀f:a<b.length,b[a]≠e)->e∉b:=by
  intro r q;obtain⟨c,l,rfl⟩:=hG.1 q;rcases uq c a with f|f|f
  ·grind
  ·grind
  have w:=h a aa (bd _);grind [aj2]
 simp only[bZ,bX,bv,cC];refine⟨λi=>?_,λn=>?_⟩
 ·have i:a<b.length:=(by grind);refine⟨i,λr=>?_,λx=>?_⟩
  ·grind [bv,DL]
  grind
 grind
structure fa (m4:eA):Prop where
 asc:∀v,(h:v<m4.length)->qt m4[v] m4.length
 O0:∀v,(h:v<m4.length)->(v:Z)∉m4[v]
 sym:∀v,(h:v<m4.length)->∀w:X,(hw:w<m4.length)->(w:Z)∈m4[v]->(v:Z)∈m4[w]
open Classical in
def it (a:eA):Z:=if 200<a.length then 6 else if fa a then 0 else 1
open Classical in
theorem I4 (a:eA) (b:X) (c:Z) (f:b<a.length) (d:a[b].length<4611686018427387904) (e:a[b].Pairwise (· < ·)):xp ((a,()),(b:Z),c,())=Y (bu (c∈a[b]),()):=by rw[<-bN];grind [bv,LI,bX,cC,xp]
theorem Gy (a:eA) (p:∀z∈a,z.length<4611686018427387904):zS ((a,()),())=Y (it a,()):=by
 classical
 rw[<-bN];unfold zS;simp only[bZ,bX,bv];refine⟨λi=>?_,λi=>?_⟩
 ·grind [it]
 have G:¬200<a.length:=(by grind);have C:¬fa a->(1:Z)=it a:=λi=>(by grind [it]);refine cx (P:=λh=>(h=.inr (1,())/\¬fa a)\/(h=.inl ()/\∀d,(i:d<a.length)->qt a[d] a.length/\(d:Z)∉a[d])) ?_ ?_
 ·refine ae.for (i0:=0) a.length (λc _=>∀d,d<c->(i:d<a.length)->qt a[d] a.length/\(d:Z)∉a[d]) rfl (λd l=>by omega) (c5 _) ?_ ?_
  ·rintro c _ _ g t;simp only[bZ,bX,bv,cC];refine⟨λ_=>⟨g,?_⟩,λr=>by grind⟩;rw[UY _ _ (p _ (cG g))];simp only[bv];refine⟨λq=>?_,λq=>.inl ⟨trivial,λf=>?_⟩⟩
   ·have q:qt a[c] a.length:=(by grind);rw[I4 a c c g (p _ (cG g)) q.1];simp only[bv,bZ];refine⟨λx=>.inl ⟨trivial,λf=>f.O0 c g (by grind)⟩,λx=>⟨iS aa,λd l D=>?_⟩⟩;grind
   have:=f.asc c g;grind
  simp_all [bZ,bv,trivial]
 rintro h (⟨rfl,f⟩|⟨rfl,o⟩)
 ·grind [bv]
 simp only[bX];have J:(∀e,(i:e<a.length)->∀k∈a[e],∀b:X,k=(b:Z)->(j:b<a.length)->(e:Z)∈a[b])->fa a:=λi=>⟨λe f=>(o e f).1,λe f=>(o e f).2,λe f b j s=>i e f b s b bo j⟩;refine cx (P:=λh=>(h=.inr (1,())/\¬fa a)\/(h=.inl ()/\∀e,(i:e<a.length)->∀k∈a[e],∀b:X,k=(b:Z)->(j:b<a.length)->(e:Z)∈a[b])) ?_ ?_
 ·refine ae.for (i0:=0) a.length (λc _=>∀e,e<c->(i:e<a.length)->∀k∈a[e],∀b:X,k=(b:Z)->(j:b<a.length)->(e:Z)∈a[b]) rfl (λd l=>by omega) (c5 _) ?_ ?_
  ·rintro c _ _ g t;simp only[bZ,bX,cC];refine⟨λ_=>⟨g,?_⟩,λr=>by grind⟩;have E:=p _ (cG g);refine cx (P:=λh=>(h=.inr (.inr (.inr (1,())))/\¬fa a)\/(h=.inl ()/\∀k∈a[c],∀b:X,k=(b:Z)->(j:b<a.length)->(c:Z)∈a[b])) ?_ ?_
   ·refine ae.for (i0:=0) a[c].length (λd _=>∀m,m<d->(i:m<a[c].length)->∀b:X,a[c][m]=(b:Z)->(j:b<a.length)->(c:Z)∈a[b]) rfl (λd l=>by omega) (c5 _) ?_ ?_
    ·rintro d _ _ l v;simp only[bZ,bX,cC];refine⟨λ_=>⟨l,?_⟩,λr=>by grind⟩;have I:=(o c g).1.2 _ (cG l);obtain⟨b,j⟩:∃b:X,a[c][d]=(b:Z):=⟨a[c][d].toNat,aa⟩;have n:b<a.length:=aa;rw[j,I4 a b c n (p _ (cG n)) (o b n).1.1];simp only[bv,bZ];refine⟨λH=>.inl ⟨trivial,λf=>?_⟩,λM=>⟨iS aa,λm s F B K L=>?_⟩⟩
     ·have:=f.sym c g b n (j▸cG l);grind
     rcases cR m d with u|u
     ·grind
     obtain rfl:m=d:=aa;have:B=b:=aa;grind
    intro A v;simp only[bZ,bv];refine⟨λr=>by grind,λ_=>.inr ⟨trivial,λk y b j n=>?_⟩⟩;obtain⟨m,s,rfl⟩:=hG.1 y;grind
   rintro h (⟨rfl,f⟩|⟨rfl,w⟩)
   ·simp_all [trivial,bv]
   grind [bv,iS,cm]
  intro A t;simp only[bZ,bv];grind
 rintro h (⟨rfl,f⟩|⟨rfl,w⟩)
 ·grind [bv]
 grind [bv,it]
end
section
inductive qO (A:X->X->Prop) (k:X):X->X->Prop
 |one {i j:X}:A i j->qO A k i j
 |step {i m j:X}:A i m->m<k->qO A k m j->qO A k i j
section
variable {A:X->X->Prop} {k:X}
end
end
section
def j6 (A:eA) (a b:X):Prop:=∃c:a<A.length,(b:Z)∈A[a]
def j6.lt {A:eA} (f:fa A) (a:j6 A b d):b<A.length/\d<A.length:=by obtain⟨c,e⟩:=a;have:=(f.asc b c).2 _ e;omega
def j6.symm {A:eA} (e:fa A):∀a b,j6 A a b->j6 A b a:=λa b c=>by obtain⟨f,d⟩:=c.lt e;exact⟨d,e.sym a f b d c.2⟩
def j6.ne {A:eA} (e:fa A) (a:j6 A b d):b≠d:=λc=>by subst c;exact e.O0 b a.1 a.2
def qO.lt {A:eA} (b:fa A) {e c j:X} (a:qO (j6 A) e c j):c<A.length/\j<A.length:=by
 induction a with
 |one a=>exact a.lt b
 |step a _ _ d=>exact⟨(a.lt b).1,d.2⟩
inductive CB (R:X->X->Prop):X->X->Prop
 |refl (u:X):CB R u u
 |step {u p v:X}:R u p->CB R p v->CB R u v
section
variable (A:eA)
variable {A} {j:X} {T:X->Prop} {B C:aj0}
end
end
section
def y9 (c:eA) (a b:X):Prop:=b=a\/(a<b/\qO (j6 c) a a b)
open Classical in
def uN (c:eA) (b d:X):aj0:=((bL d).filter λa=>bu (b<=a/\y9 c b a)).map λ(a:X)=>(a:Z)
def gW (a:eA) (b:X):aj0:=uN a b a.length
def y9.le (a:y9 r d b):d<=b:=by rcases a with a|a<;>omega
def vL:(b:Z)∈gW r d↔b<r.length/\y9 r d b:=by
 unfold gW uN;simp only[fe,iF,jJ,akn];constructor
 ·rintro⟨e,⟨c,a⟩,f⟩;have:e=b:=aa;subst this;exact⟨c,a.2⟩
 exactλ⟨c,a⟩=>⟨b,⟨c,a.le,a⟩,bo⟩
def K7 (c:X->bA) (b:X):(((bL b).filter c).map λ(a:X)=>(a:Z)).Pairwise (· < ·):=by rw[qE];refine apB _ ?_;exact anJ.imp (λd=>by omega)
def Nh (a:eA) (b:X):(gW a b).Pairwise (· < ·):=K7 _ _
def VH (b:eA) (c a:X):(uN b c a).length<=a:=by unfold uN;rw[eM];exact di (mq _ _) ac
end
theorem Ck (a:aj0) (b:Z) (h:a.length<4611686018427387904):sI (a,b,())=Y (bu (b∈a),()):=by
 rw[<-bN];unfold sI;simp only[bX];refine ae.for (i0:=0) a.length (λc _=>b∉a.take c) rfl ac (c5 _) ?_ ?_
 ·rintro c _ _ d e;simp only[bZ,bX,bv,cC];refine⟨λ_=>⟨d,λf=>?_,λi=>⟨iS aa,?_⟩⟩,λg=>by grind⟩
  ·grind
  grind [tQ,cB]
 simp_all [bZ,bv,hm]
def Tm (a:Z):bE.wrap a=a %18446744073709551616:=by unfold alD;rw[aw (by simp[aoG])];rfl
def hy (a:ey) (b c:X):bA:=(a.getD b []).getD c br
def mH (c:ey) (b d:X):aj0:=((bL d).filter λa=>b !=a&&(hy c b a||hy c a b)).map λ(a:X)=>(a:Z)
def jZ (a:ey):eA:=(bL a.length).map λb=>mH a b a.length
theorem Pq (b:ey) (c a:X):(mH b c a).length<=a:=by grind [cu,aku,b9,mH]
theorem Pr (c:ey) (b a:X):mH c b (a+1)=mH c b a++(if(b !=a&&(hy c b a||hy c a b))=bp then[(a:Z)] else[]):=by unfold mH;rw[j5,r8,j4];grind
theorem xb {a:ey} (c:b<a.length) (e:d<a[b].length):hy a b d=a[b][d]:=by grind [akG,hy]
theorem LN (a:ey) (p:∀k∈a,k.length=a.length) (y:a.length<=4294967296):Ao (a,())=Y ((jZ a,()),()):=by
 rw[<-bN];unfold Ao;have v:hB=4294967296:=rfl;simp only[bX];refine cx (P:=λd=>d.2.1.1=jZ a) ?_ ?_
 ·refine ae.for (i0:=0) a.length (λc l=>l.2.1.1=(bL c).map λc=>mH a c a.length) rfl rfl (c5 _) ?_ ?_
  ·rintro c ⟨l,h,_⟩ _ i g;simp only at g;simp only[bZ,bX,bv];refine⟨λ_=>?_,λm=>by grind⟩;refine cx (P:=λd=>d.2.1=h/\d.2.2.1=mH a c a.length) ?_ ?_
   ·refine ae.for (i0:=0) a.length (λe d=>d.2.1=h/\d.2.2.1=mH a c e) rfl ⟨bo,bo⟩ (c5 _) ?_ ?_
    ·rintro e ⟨s,q,k,_⟩ _ j ⟨n,o⟩;simp only at o n;subst n;have t:=p _ (cG i);have u:=p _ (cG j);simp only[bZ (b:=decide _),bX (x:=bC _ _)];refine⟨λ_=>?_,λm=>by grind⟩;rw[bX];refine cx (P:=λd=>d=((c !=e&&(hy a c e||hy a e c)),s,q,k,())) ?_ ?_
     ·simp only[bZ,bX,bv,cC];rw[xb i aa,xb j aa];refine⟨λf=>⟨i,aa,λr=>⟨j,aa,?_⟩,λr=>?_⟩,λf=>?_⟩
      ·have f:c≠e:=(by grind);grind
      ·have f:c≠e:=(by grind);grind
      grind
     rintro d rfl;have w:=Pq a c e;simp only[bZ,bX,bv,ae.yh];refine⟨λf=>⟨by grind,iS aa,trivial,?_⟩,λf=>⟨iS aa,trivial,?_⟩⟩
     ·rw[Pr,ax f,o]
     simp_all [Pr,aw,pB]
    simp_all [bZ,bv,trivial]
   grind [bX,bv,ae.yh,iS,akp]
  rintro⟨l,h,_⟩ g;simp only at g;simp only[bZ,bv];exact⟨λm=>by grind,λ_=>g⟩
 grind [bv]
theorem PG {a:ey}:(b:Z)∈mH a d m↔b<m/\d≠b/\(hy a d b||hy a b d)=bp:=by unfold mH;grind
theorem IG (b:ey):fa (jZ b):=by
 have e:(jZ b).length=b.length:=(by simp[jZ]);have d:∀a,(c:a<(jZ b).length)->(jZ b)[a]=mH b a b.length:=λa c=>(by simp[jZ]);refine⟨λa c=>?_,λa c=>?_,λa c i h g=>?_⟩
 ·rw[d a c,e];refine⟨K7 _ _,λj f=>?_⟩;unfold mH at f;grind
 ·grind [PG]
 grind [PG,Bool.or_comm]
def Xf (a:ey):(jZ a).length=a.length:=by simp[jZ]
theorem Xg (b:ey):∀a∈jZ b,a.length<=b.length:=by intro a c;unfold jZ at c;grind [Pq]
def VI (q:fa r) (s:b<r.length):∃f,gW r b=(b:Z)::f/\(∀c∈f,∃a:X,c=(a:Z)/\b<a/\a<r.length/\qO (j6 r) b b a)/\(∀a:X,b<a->qO (j6 r) b b a->(a:Z)∈f)/\f.Pairwise (· < ·):=by
 have k:(b:Z)∈gW r b:=vL.2 ⟨s,.inl bo⟩;have h:=Nh r b;have i:∀c∈gW r b,∃a:X,c=(a:Z)/\a<r.length/\y9 r b a:=(by intro c e;have t:=e;unfold gW uN at e;simp only[fe] at e;obtain⟨a,_,rfl⟩:=e;exact⟨a,bo,vL.1 t⟩);generalize p:gW r b=n at k h i;cases n with
 |nil=>cases k
 |cons c f=>
  rw[nm] at h;have e:c=(b:Z):=by
   obtain⟨a,rfl,_,j⟩:=i c (mr ..);have:=j.le;rcases fG.1 k with d|d
   ·exact d.symm
   have:=h.1 _ d;omega
  subst e;refine⟨f,bo,λu m=>?_,λa j l=>?_,h.2⟩
  ·obtain⟨a,rfl,o,g⟩:=i u (g3 _ m);have:=h.1 _ m;rcases g with g|g
   ·omega
   exact⟨a,bo,g.1,o,g.2⟩
  have:(a:Z)∈gW r b:=vL.2 ⟨(l.lt q).2,.inr ⟨j,l⟩⟩;rw[p] at this;rcases fG.1 this with d|d
  ·omega
  exact d
theorem fu {a:bn q} {i:X} {b:q} (c:a[i]?=Y b):aj a (i:Z)=Y b:=by unfold aj;rw[ax aa,fF,c]
theorem GZ (b:eA):fa b↔∀a,(f:a<b.length)->b[a].Pairwise (· < ·)/\∀c,(e:c<b[a].length)->(0<=b[a][c]/\b[a][c]<b.length)/\b[a][c]≠(a:Z)/\(a:Z)∈b.getD (b[a][c]).toNat []:=by
 constructor
 ·rintro⟨g,j,k⟩ a d;refine⟨(g a d).1,λc e=>?_⟩;have l:=(g a d).2 _ (cG e);grind
 intro f;refine⟨λa d=>⟨(f a d).1,λp n=>?_⟩,λa d h=>?_,λa d o m h=>?_⟩
 ·grind [ale]
 ·grind [ale]
 obtain⟨c,e,i⟩:=hG.1 h;grind [akz,b0]
theorem BE (a:eA) (s:∀B∈a,B.length<4611686018427387904):vb ((a,()),())=Y (it a,()):=by
 classical
 rw[<-bN];unfold vb;simp only[bZ,bv,bX];refine⟨λd=>?_,λd=>?_⟩
 ·grind [it]
 have E:¬200<a.length:=(by grind);refine cx (P:=λg=>(g=.inl ()/\fa a)\/(g=.inr (1,())/\¬fa a)) ?_ ?_
 rotate_left
 ·rintro _ (⟨rfl,e⟩|⟨rfl,e⟩)
  ·grind [bv,it]
  grind [bv,it]
 refine ae.for (i0:=0) a.length (λn _=>∀b,(d:b<a.length)->b<n->a[b].Pairwise (· < ·)/\∀c,(f:c<a[b].length)->(0<=a[b][c]/\a[b][c]<a.length)/\a[b][c]≠(b:Z)/\(b:Z)∈a.getD (a[b][c]).toNat []) rfl (λb _ d=>by omega) (c5 _) ?_ ?_
 ·rintro b _ _ e i;have A:=s _ (cG e);simp only[bZ,bv,bX,cC];refine⟨λ_=>⟨e,?_⟩,λh=>by grind⟩;rw[LG _ A];simp only[bv];refine⟨λl=>.inr ⟨trivial,λk=>?_⟩,λl=>?_⟩
  ·have:=(k.asc b e).1;grind
  have l:a[b].Pairwise (· < ·):=(by grind);refine cx (P:=λg=>(g=.inl ()/\∀c,(f:c<a[b].length)->(0<=a[b][c]/\a[b][c]<a.length)/\a[b][c]≠(b:Z)/\(b:Z)∈a.getD (a[b][c]).toNat [])\/(g=.inr (.inr (.inr (1,())))/\¬fa a)) ?_ ?_
  rotate_left
  ·rintro _ (⟨rfl,t⟩|⟨rfl,t⟩)
   ·simp only[bv];refine⟨iS aa,λp z G=>?_⟩;rcases cR p b with d|d
    ·exact i p z d
    obtain rfl:p=b:=aa;exact⟨l,t⟩
   simp_all [bv,trivial]
  refine ae.for (i0:=0) a[b].length (λn _=>∀c,(f:c<a[b].length)->c<n->(0<=a[b][c]/\a[b][c]<a.length)/\a[b][c]≠(b:Z)/\(b:Z)∈a.getD (a[b][c]).toNat []) rfl (λb _ d=>by omega) (c5 _) ?_ ?_
  ·rintro c _ _ f j;have m:¬((0<=a[b][c]/\a[b][c]<a.length)/\a[b][c]≠(b:Z)/\(b:Z)∈a.getD (a[b][c]).toNat [])->¬fa a:=λd k=>d (((GZ a).1 k b e).2 c f);simp only[bZ,bv,bX,cC];refine⟨e,λ_=>⟨e,f,λq=>⟨λr=>⟨λu=>?_,λu=>?_⟩,λr=>?_⟩,λq=>?_⟩,λh=>by simp_all⟩
   ·have y:0<=a[b][c]/\a[b][c]<(a.length:Z):=(by simp_all);have F:a[b][c]≠(b:Z):=(by simp_all);rw[ae.OA];refine⟨aa,y.1,?_⟩;rw[Ck _ _ (s _ (cG _))];have C:a.getD (a[b][c]).toNat []=a[(a[b][c]).toNat]'(by omega):=by
     simp_all
    simp only[bv];refine⟨λv=>.inr ⟨trivial,m ?_⟩,λv=>⟨iS aa,λo x D=>?_⟩⟩
    ·simp_all
    rcases cR o c with d|d
    ·exact j o x d
    obtain rfl:o=c:=aa;simp_all
   ·simp_all
   ·refine .inr ⟨trivial,m (λw=>?_)⟩;simp at r;omega
   refine .inr ⟨trivial,m (λw=>?_)⟩;simp at q;omega
  rintro _ j;simp only[bZ,bv,bX,cC];exact⟨e,λh=>by simp at h,λ_=>.inl ⟨trivial,λc f=>j c f f⟩⟩
 rintro _ i;simp only[bZ,bv];exact⟨λh=>by grind,λ_=>.inl ⟨trivial,(GZ a).2 λb e=>i b e e⟩⟩
theorem Ub (a:aj0) (c:Z) (q:a.length<4611686018427387904):D9 (a,c,())=Y (bu (∀b∈a,0<=b/\b<c),()):=by
 rw[<-bN];unfold D9;simp only[bX];refine cx (P:=λi=>(i=.inl ()/\∀b∈a,0<=b/\b<c)\/(i=.inr (br,())/\¬∀b∈a,0<=b/\b<c)) ?_ ?_
 ·refine ae.for (i0:=0) a.length (λf _=>∀d,(e:d<a.length)->d<f->0<=a[d]/\a[d]<c) rfl (λd _ e=>by omega) (c5 _) ?_ ?_
  ·rintro f _ _ g l;have h:¬(0<=a[f]/\a[f]<c)->¬∀b∈a,0<=b/\b<c:=λe n=>e (n _ (cG g));simp only[bZ,bX,bv,cC];refine⟨λ_=>⟨g,λj=>⟨g,λk=>.inr ⟨trivial,h (λe=>?_)⟩,λk=>⟨iS aa,λd o p=>?_⟩⟩,λj=>.inr ⟨trivial,h (λe=>?_)⟩⟩,λm=>by grind⟩
   ·grind
   ·grind
   grind
  rintro _ l;simp only[bZ,bv];refine⟨λm=>by grind,λ_=>.inl ⟨trivial,λb r=>?_⟩⟩;grind [ale]
 grind [bv,aj8,akw]
theorem P6:c.Nodup↔∀a,(b:a<c.length)->c[a]∉c.take a:=by grind [ale,aki,aj2]
theorem Ul (a:aj0) (m:a.length<4611686018427387904):Ea (a,())=Y (bu (¬a.Nodup),()):=by
 rw[<-bN];unfold Ea;simp only[bX];refine cx (P:=λe=>(e=.inl ()/\a.Nodup)\/(e=.inr (bp,())/\¬a.Nodup)) ?_ ?_
 ·refine ae.for (i0:=0) a.length (λc _=>∀b,(d:b<a.length)->b<c->a[b]∉a.take b) rfl (λb _ d=>by omega) (c5 _) ?_ ?_
  ·rintro c _ _ g h;have ao:fY (c:Z)=Y c:=(by simp_all [ax,fF,fY]);have f:gZ 0 c a.length=Y ():=(by grind [gZ]);simp only[bZ,bX,bv,cC,ao,f,aI,jv,mT];refine⟨λ_=>⟨g,?_⟩,λj=>by grind⟩;rw[Ck _ _ (by grind)];simp only[bv];refine⟨λd=>.inr ⟨trivial,λi=>?_⟩,λd=>⟨iS aa,λb k l=>?_⟩⟩
   ·simp_all [P6,alz]
   grind
  simp_all [bZ,bv,trivial,P6]
 grind [bv,akw,aj8]
def oR (a:eA):ey:=(bL a.length).map λb=>(bL a.length).map λ(c:X)=>bu ((c:Z)∈a.getD b [])
theorem Ld (a:eA):(oR a).length=a.length:=by simp[oR]
theorem SO (a:b<r.length):(oR r)[b]?=Y ((bL r.length).map λ(c:X)=>bu ((c:Z)∈r[b])):=by simp[oR,a,akG]
theorem L4 (o:∀v∈r,v.length<4611686018427387904) (y:r.length<=200) (q:∀a,(f:a<r.length)->∀n∈r[a],0<=n/\n<(r.length:Z)):Ap ((r,()),())=Y (oR r,()):=by
 rw[<-bN];unfold Ap;have x:hB=4294967296:=rfl;simp only[bX];refine cx (P:=λd=>d.1=oR r) ?_ (by grind [bv]);refine ae.for (i0:=0) r.length (λu e=>e.1=(oR r).take u) rfl ac (c5 _) ?_ ?_
 ·rintro a ⟨i,_⟩ _ b h;simp only at h;have A:=o _ (cG b);simp only[bZ,bX,ae.Js,fF];refine⟨λ_=>⟨⟨aa,aa,aa⟩,?_⟩,λp=>by grind⟩;refine cx (P:=λd=>d.1=i/\d.2.1=(bL r.length).map λ(k:X)=>bu ((k:Z)∈r[a])) ?_ ?_
  ·refine ae.for (i0:=0) r[a].length (λc e=>e.1=i/\e.2.1=(bL r.length).map λ(k:X)=>bu ((k:Z)∈r[a].take c)) rfl ⟨bo,?_⟩ (c5 _) ?_ ?_
   ·apply il;grind
   ·rintro c ⟨B,w,_⟩ _ g ⟨l,m⟩;simp only at l m;have t:=q a b _ (cG g);have z:w.length=r.length:=(by grind);simp only[bZ,bX,cC,ae.EZ,ae.CJ,bv];refine⟨b,λ_=>⟨b,g,⟨t.1,aa⟩,aa,iS aa,l,?_⟩,λp=>by grind⟩;apply il;intro j;rw[wL,m,jI,jI];rcases cR j r.length with f|f
    ·rw[zg f];simp only[jv,<-tQ g,ha,fg,eM,pG];by_cases s:(r[a][c]).toNat=j
     ·grind
     rw[aw s];have:¬(j:Z)=r[a][c]:=aa;grind
    grind
   simp_all [bZ,bX,cC,bv,hm]
  grind [bX,ae.yh,bv,iS,SO,aj5]
 rintro⟨i,_⟩ h;simp only at h;simp only[bZ,bv];grind [Ld,cy]
theorem NT (a:X) (h:a<=4294967296):Aq ((a:Z),())=Y (bJ a (bJ a br),()):=by
 rw[<-bN];unfold Aq;have g:hB=4294967296:=rfl;simp only[bX];refine cx (P:=λd=>d.1=bJ a (bJ a br)) ?_ (by grind [bv]);refine ae.for (i0:=0) a (λb e=>e.1=bJ b (bJ a br)) rfl rfl (c5 _) ?_ ?_
 ·rintro b ⟨i,_⟩ _ f c;simp only at c;simp only[bZ,bX,bv,ae.Js,ae.yh,fF];grind [List.replicate_succ',iS]
 simp_all [bZ,bv]
section
def aF {α:Type} (b:X) (a:X->α):bn α:=(bL b).map a
def eI {α:Type} (b:X->α) (c:X) (d:α):X->α:=λa=>if a=c then d else b a
section
variable {α A B:Type}
theorem g9 (c:X->α) (a:X) (b:α):eI c a b a=b:=ax bo
theorem hL (a:X->α) (e:α) (c:b≠d):eI a d e b=a b:=aw c
theorem cN (a:X) (b:X->α):(aF a b).length=a:=by simp[aF]
theorem oy (c:X) (b:X->α) (a:X):(aF c b)[a]?=if a<c then Y (b a) else bq:=by unfold aF;grind
theorem j9 {a:X->α} (c:b<d):(aF d a)[b]?=Y (a b):=by rw[oy,ax c]
theorem jX {a:X->α} (c:b<(aF d a).length):(aF d a)[b]=a b:=by simp[aF]
theorem eD {c d:X->α} (e:∀a,a<b->c a=d a):aF b c=aF b d:=ju λa f=>e a (jJ.1 f)
theorem WQ (a:X->α):aF 0 a=[]:=rfl
theorem ri (b:X) (a:X->α):aF (b+1) a=aF b a++[a b]:=by simp[aF,j5]
theorem jY (a:X) (b:α):bJ a b=aF a λ_=>b:=by apply il;grind [oy]
theorem hI {a:X->α} (c:α):(aF d a).set b c=aF d (eI a b c):=by apply il;intro e;rw[wL,oy,oy,cN];unfold eI;grind
theorem WP (a:bn α) (c:X->α) (d:∀b,(e:b<a.length)->a[b]=c b):a=aF a.length c:=by apply il;grind [al1,b0,oy]
theorem EG (c a:X) (b:X->α) (d:a<=c):(aF c b).take a=aF a b:=by apply il;intro e;rw[amh,oy,oy];grind
theorem WN (d a:X) (b:X->α):(aF d b).drop a=aF (d-a) (λc=>b (a+c)):=by apply il;intro c;rw[qB,oy,oy];grind
theorem AJ (b e:X) (c d:X->α):aF b c++aF e d=aF (b+e) (λa=>if a<b then c a else d (a-b)):=by apply il;intro a;rw[List.getElem?_append,cN,oy,oy,oy];grind
theorem fB {n i:X} (a:i<n):bf n (i:Z)=Y i:=by simp_all [ax,bf]
theorem ir {c:bn α} {v:α} {a:α->bw A} (d:c[b]?=Y v):a8 c b a=a v:=by grind [a8]
theorem gP {a:X->α} {c:α->bw A} (e:b<d):a8 (aF d a) b c=c (a b):=ir (j9 e)
def vy {a:X->α} (c:b<d):aj (aF d a) (b:Z)=Y (a b):=fu (j9 c)
theorem eC (a:b<=4294967296):bh b=Y ():=ax a
theorem iP (a:b<=4294967296):fj (b:Z) (b:Z)=Y b:=by unfold fj;rw[ax ⟨aa,aa,by have:hB=4294967296:=rfl;omega⟩];simp
theorem yx:fY (b:Z)=Y b:=by simp_all [ax,fY]
theorem rv (a:d<=b/\b<=m):gZ d b m=Y ():=ax a
def Rq (a:0<b):oI b=Y ():=rfl
theorem gh (a b:Z):(a==b)=bu (a=b):=by grind
theorem fq (a b:Z):(a !=b)=!bu (a=b):=by grind
theorem aJ [akA n] (a:n):decide n=bp:=aj8 a
theorem aC [akA n] (a:¬n):decide n=br:=akw a
theorem aQ {a b:α} (c:g=bp):(bif g then a else b)=a:=by grind
theorem aM {b a:α} (c:g=br):(bif g then b else a)=a:=by grind
theorem cW [akA n] {a b:α}:(bif decide n then a else b)=if n then a else b:=by grind
theorem CW [akA n] {a b:α}:(bif decide n==bp then a else b)=if n then a else b:=by grind
theorem xl [akA n] {a b:α}:(bif decide n==br then a else b)=if n then b else a:=by grind
theorem B4 (a:b<9223372036854775808):bK.wrap (b:Z)=(b:Z):=cq aa aa
theorem To (a:b+d<9223372036854775808):bK.wrap ((b:Z)+(d:Z))=((b+d:X):Z):=by grind [cq]
theorem agb (c:d<=b) (a:b<9223372036854775808):bK.wrap ((b:Z)-(d:Z))=((b-d:X):Z):=by grind [cq]
theorem B7 (c:1<=b) (a:b<9223372036854775808):bK.wrap ((b:Z)-1)=((b-1:X):Z):=by grind [cq]
theorem jd (a:b+1<9223372036854775808):bK.wrap ((b:Z)+1)=((b+1:X):Z):=by grind [cq]
end
def ae.of_eq {α:Type} {b:bw α} {y:α} {a:α->Prop} (c:b=Y y) (d:a y):ae b a:=⟨y,c,d⟩
theorem ae.aN {α A:Type} {c:bw α} {b:α->bw A} {P:α->Prop} {a:A->Prop} (e:ae c P) (f:∀d,P d->ae (b d) a):ae (c.bind b) a:=
 bX.2 (e.mono f)
theorem ae.ite {α:Type} [akA n] {b c:bw α} {a:α->Prop} (d:n->ae b a) (e:¬n->ae c a):ae (if n then b else c) a:=by grind
theorem af {α A:Type} {c:bw α} {a:α->bw A} {y:α} {b:bw A} (d:c=Y y) (e:a y=b):c.bind a=b:=by grind
theorem A0 {f:Z×i->bw ((Z×i)⊕q)} {g:q} {h:i} (d:X) (c:X->i) (e:X) (k:a=(e:Z)) (l:h=c e) (j:e<=d) (o:∀b,e<=b->b<d->f ((b:Z),c b)=Y (.inl (((b+1:X):Z),c (b+1)))) (n:f ((d:Z),c d)=Y (.inr g)):loop f (a,h)=Y g:=by
 subst k l;rw[<-bN];refine ae.for d (λb m=>m=c b) rfl rfl j ?_ ?_
 ·grind [bv]
 grind [bv]
theorem tm {τ:Type} {h:Z×τ->bw ((Z×τ)⊕i)} (f:X) (e:X->Prop) (g:τ) (m l:i) (d:X) (r:a=(d:Z)) (q:d<=f) (s:∀b,d<=b->b<f->(∀c,d<=c->c<b->e c)->h ((b:Z),g)=Y (open Classical in if e b then .inl (((b+1:X):Z),g) else .inr l)) (v:(∀c,d<=c->c<f->e c)->h ((f:Z),g)=Y (.inr m)):loop h (a,g)=Y (open Classical in if∀b,d<=b->b<f->e b then m else l):=by
 classical
 subst r;rw[<-bN];refine ae.for f (λb t=>t=g/\∀c,d<=c->c<b->e c) rfl ⟨bo,λc j u=>by omega⟩ q ?_ ?_
 ·rintro b _ n j ⟨rfl,o⟩;rw[s b n j o];by_cases k:e b
  ·rw[ax k];grind [cm,bv]
  rw[aw k];exact bv.2 (by rw[aw (λp=>k (p b n j))])
 rintro _ ⟨rfl,o⟩;simp_all [bv,ax]
theorem Jn {d:Z×bt->bw dR} (c:X) (b:X->Prop) (h:∀a,a<c->d ((a:Z),())=Y (open Classical in if b a then .inl (((a+1:X):Z),()) else .inr (.inr ((a:Z),())))) (m:d ((c:Z),())=Y (.inr (.inl ()))):ae (loop d (0,())) (λi=>match i with|.inl _=>∀a,a<c->b a|.inr j=>0<=j.1/\¬∀a,a<c->b a):=by
 classical
 refine ae.for c (λa _=>∀e,e<a->b e) (i0:=0) rfl (λe k=>by omega) (c5 _) ?_ ?_
 ·rintro a ⟨⟩ _ g l;rw[h a g];by_cases f:b a
  ·rw[ax f];grind [cm,bv]
  rw[aw f];grind [bv]
 grind [bv]
end
theorem Ly (a:Z):cb.wrap a=a %4294967296:=by unfold alD;exact aw (ac:¬(br&&bu (a %4294967296>=(2147483648:Z)))=bp)
theorem B5 (a:Z):bE.wrap a=a %18446744073709551616:=by unfold alD;exact aw (ac:¬(br&&bu (a %18446744073709551616>=(9223372036854775808:Z)))=bp)
theorem B6 (b:0<=a) (c:a<18446744073709551616):bE.wrap a=a:=by grind [B5]
theorem Lz (b:0<=a) (c:a<4294967296):cb.wrap a=a:=by grind [Ly]
theorem Vp (a:b<18446744073709551616):(ch 64 (b:Z)).toNat=b:=by grind
theorem Ml (e:b<18446744073709551616) (f:d<18446744073709551616):eZ .u64 (b:Z) (d:Z)=((b&&&d:X):Z):=by have a:((ch 64 (b:Z))&&&(ch 64 (d:Z))).toNat=b&&&d:=(by grind);have c:b&&&d<=b:=aoH;unfold eZ;rw[show bE.bits=64 from rfl,a];grind [B6]
theorem Mk (e:b<4294967296) (f:d<4294967296):eZ .u32 (b:Z) (d:Z)=((b&&&d:X):Z):=by have a:((ch 32 (b:Z))&&&(ch 32 (d:Z))).toNat=b&&&d:=(by grind);have c:b&&&d<=b:=aoH;unfold eZ;rw[show cb.bits=32 from rfl,a];grind [Lz]
theorem acG (c:b<18446744073709551616) (e:d<18446744073709551616):gr .u64 (b:Z) (d:Z)=((b|||d:X):Z):=by have a:(ch 64 (b:Z)|||ch 64 (d:Z)).toNat=b|||d:=(by grind);have f:b|||d<2^64:=aoI c e;unfold gr;rw[show bE.bits=64 from rfl,a];grind [B6]
theorem acF (c:b<4294967296) (e:d<4294967296):gr .u32 (b:Z) (d:Z)=((b|||d:X):Z):=by have a:(ch 32 (b:Z)|||ch 32 (d:Z)).toNat=b|||d:=(by grind);have f:b|||d<2^32:=aoI c e;unfold gr;rw[show cb.bits=32 from rfl,a];grind [Lz]
theorem w6 (b:X) (d:0<=a) (f:a<18446744073709551616) (c:Z) (e:b<=64) (i:c=2^b-1):eZ .u64 a c=a %2^b:=by obtain⟨k,rfl⟩:=fZ d;have j:0<2^b:=jN b;have g:c=((2^b-1:X):Z):=(by grind);have h:2^b<=2^64:=wR ab e;grind [Ml,anK]
theorem and_low32 (b:0<=a) (c:a<18446744073709551616):eZ .u64 a 4294967295=a %4294967296:=w6 32 b c _ ab ab
theorem pp (a:Z):eJ .u64 a 32=Y (a/4294967296):=by have:eJ .u64 a 32=Y (a.fdiv 4294967296):=rfl;grind
theorem nV (b:0<=a) (c:a<=64):h4 .u64 e a=Y ((e*2^a.toNat) %18446744073709551616):=by unfold h4;rw[ax b,B5,show bE.bits=64 from rfl,h6 aa]
theorem tN (b:0<=a) (c:a<=64):eJ .u64 e a=Y (e/2^a.toNat):=by unfold eJ;rw[ax b,show bE.bits=64 from rfl,h6 aa,aoJ _ (by grind)]
theorem Mn (a:X) (c:b<2^a):b|||(d*2^a)=b+d*2^a:=by rw[alQ,Nat.or_comm,nn,Nat.two_pow_add_eq_or_of_lt c]
theorem nb (b:X) (d:0<=a) (h:a<2^b) (f:0<=e) (i:a<18446744073709551616) (j:e<18446744073709551616) (l:e %2^b=0):gr .u64 a e=a+e:=by obtain⟨g,rfl⟩:=fZ d;obtain⟨c,rfl⟩:=fZ f;have n:g<2^b:=(by grind);have m:c %2^b=0:=(by grind);rw[acG aa aa];have k:c=(c/2^b)*2^b:=(by grind [Nat.mul_comm,amt]);grind [Mn]
def aS (a:X):X:=if a=0 then 0 else a.log2+1
theorem fH {k:X}:aS b<=k↔b<2^k:=by grind [Nat.log2_lt,alG,aS]
def uH:b<aS d↔2^b<=d:=by rw[<-Nat.not_le,fH,Nat.not_lt]
def Rg (a b:X) (c:a<=b):2^a<=2^b:=wR ab c
def Km (a b:X) (c:a<b):2^a<2^b:=aoK ab c
def l1 (a:d<=b):aS d<=aS b:=by rw[fH];have:=fH.1 (bd (aS b));omega
theorem xc (a:aS b<=m) (c:aS d<=s):aS (b*d)<=m+s:=by simp_all [Nat.mul_lt_mul'',fH,jM]
theorem PZ (a:d<=s*b) (c:m<b):d+m<=(s+1)*b:=by grind
def Vb (a:X) (c:aS b<=a) (e:aS d<=a):aS (b+d)<=a+1:=by rw[fH] at*;omega
theorem ada (c:d*2^m=b*2^s) (e:0<d):0<b:=by
 rcases sd b with a|a
 ·simp_all [aoL,jN,al3]
 omega
theorem qQ {m:X} (a:0<m):0<aS m:=uH.2 a
def MK {k:X} (a:2^k<=b) (c:b<2^(k+1)):aS b=k+1:=by have:=uH.2 a;have:=fH.2 c;omega
theorem zE (a:0<b):2^(aS b-1)<=b/\b<2^aS b:=
 ⟨uH.1 (by grind [qQ]),fH.1 (bd _)⟩
theorem so (d:0<b) (a:X):aS (b*2^a)=aS b+a:=by
 obtain⟨e,f⟩:=zE d;have i:=jN a;have h:=qQ d;obtain⟨c,g⟩:∃c,aS b=c+1:=⟨aS b-1,aa⟩;rw[g] at e f|-;rw[(aa:c+1+a=(c+a)+1)];refine MK ?_ ?_
 ·simp_all [hR,jM]
 rw[(aa:c+a+1=(c+1)+a),jM];simp_all
theorem xd (b a:X):aS (b/2^a)=aS b-a:=by
 have c:=jN a;apply Nat.le_antisymm
 ·rw[fH,ams c,<-jM];exact fH.1 aa
 rcases cR a (aS b) with d|d
 ·have:aS b-a-1<aS (b/2^a):=by
   rw[uH,aoM c,<-jM];exact uH.1 aa
  omega
 omega
def wn (c:bA) (b:Z) (d:bA) (a:Z):bA:=
 if a=1 then c else if a=2 then !c else if a=3 then br else bu (0<b)||(bu (b=0)&&d)
def kO (b a:X) (c:bA):Z:=
 if 2*(b %2^a)<2^a then-1 else if 2^a<2*(b %2^a) then 1 else if c then 1 else 0
def iL (e:bA) (a b:X) (c:bA) (d:Z):X:=
 if a %2^b=0/\c=br then a/2^b
 else if wn e (kO a b c) (bu (a/2^b %2=1)) d then a/2^b+1 else a/2^b
def JB (b a c:X):b %2^(a+c)=(b/2^a %2^c)*2^a+b %2^a:=by rw[jM,Nat.mod_mul,alQ,nn]
def NI (b a c:X):b/2^(a+c)=b/2^a/2^c:=by rw[jM,aoN]
theorem VY (m:bA) (b a c:X) (d:bA) (l:Z) (v:0<c):iL m b (a+c) d l=iL m (b/2^a) c (d||bu (b %2^a≠0)) l:=by
 have k:=jN a;have j:=ak8 b k;have q:¬(b %2^(a+c)=0/\d=br)->kO b (a+c) d=kO (b/2^a) c (d||bu (b %2^a≠0)):=by
  intro _;unfold kO;rw[JB,jM];obtain⟨i,rfl⟩:∃i,c=i+1:=⟨c-1,aa⟩;rw[alf];generalize u:b/2^a %(2^i*2)=h;generalize t:b %2^a=n at j|-;generalize s:2^i=g;generalize r:2^a=e at j k|-;rw[show e*(g*2)=2*(g*e) by grind,show 2*(h*e+n)=2*(h*e)+2*n by grind];rcases uq h g with f|f|f
  ·have o:(h+1)*e<=g*e:=hR _ f;grind
  ·grind
  have o:(g+1)*e<=h*e:=hR _ f;grind
 have p:(b %2^(a+c)=0/\d=br)↔(b/2^a %2^c=0/\(d||bu (b %2^a≠0))=br):=by
  rw[JB];cases d
  ·simp_all [aoL,ca,Bool.false_or,anL,ne_eq,anM]
  simp
 unfold iL;by_cases f:b %2^(a+c)=0/\d=br
 ·rw[ax f,ax (p.1 f),NI]
 simp_all [aw,NI]
def mM (b:bA) (a:Z):Z:=if b then 9223372036854775808+a else a
def rE (a:bA) (b:Z):Z:=
 if b=3\/(b=1/\a=br)\/(b=2/\a=bp) then mM a 9218868437227405311 else mM a 9218868437227405312
def pj (a:bA) (b:X) (c d:Z):Z:=
 if b<4503599627370496 then mM a b
 else if b=9007199254740992 then if c+1+1075>=2047 then rE a d else mM a ((c+1+1075)*4503599627370496)
 else if c+1075>=2047 then rE a d else mM a ((c+1075)*4503599627370496+(b-4503599627370496))
def eE (b:X) (a:Z):Z:=max (a+aS b-1-52) (-1074)
def mK (d:bA) (b:X) (a:Z) (e:bA) (c:Z):Z:=
 if eE b a<=a then pj d (b*2^(a-eE b a).toNat) (eE b a) c
 else pj d (iL d b (eE b a-a).toNat e c) (eE b a) c
theorem afD {m k:X} {e:Z} (a:k<aS m):eE (m/2^k) (e+k)=eE m e:=by grind [xd,eE]
theorem ad7 {f:bA} {k:X} {d:Z} (j:k+53<aS b):mK f b a g d=mK f (b/2^k) (a+k) (g||bu (b %2^k≠0)) d:=by have i:=afD (m:=b) (k:=k) (e:=a) aa;have l:a+k<eE b a:=(by grind [eE]);unfold mK;rw[i,aw aa,aw aa];obtain⟨c,h⟩:∃c:X,eE b a-a=(k+c:X):=⟨(eE b a-a-k).toNat,aa⟩;rw[h,(aa:(eE b a-(a+k)).toNat=c),fF,VY _ _ _ _ _ _ aa]
def AW:X->X->X
 |0,_=>0
 |f+1,a=>if(2*AW f (a/4)+1)*(2*AW f (a/4)+1)<=a then 2*AW f (a/4)+1 else 2*AW f (a/4)
def I3 (a:X):X:=AW (aS a) a
abbrev pw:=bA×aj0×bt
abbrev ik:=bA×pw×Z×bt
def hg (a:pw):Z:=if a.1 then-ar a.2.1 else ar a.2.1
def aV (a:Z):pw:=(bu (a<0),e7 a.natAbs,())
theorem oS (a:Z):hg (aV a)=a:=by unfold hg aV;simp only[sX,akn];omega
theorem mB (a:Z):a2 (aV a).2.1:=q9 _
def Ey (a:Z):fx (aV a).2.1:=EA _
theorem jl (a:Z):ar (aV a).2.1=a.natAbs:=sX _
theorem AF:(aV a).2.1=[]↔a=0:=by show e7 a.natAbs=[]↔_;grind [Wu]
theorem NV {neg:bA} (a:a2 c) (b:fx c):(neg&&bu (c≠[]),c,())=aV (hg (neg,c,())):=by have e:=gH a;have f:c=e7 (ar c).toNat:=fx.eq a b;have g:c=[]↔ar c=0:=⟨λd=>by rw[d];rfl,fx.zero a b⟩;unfold aV hg;grind
def Gr:X->X->X
 |0,_=>0
 |f+1,a=>if a %2=0 then Gr f (a/2)+1 else 0
def cZ (a:X):X:=if a=0 then 0 else Gr (aS a) a
def afx:∀{a n:X},0<n->n<2^a->∃b,n=(2*b+1)*2^Gr a n:=by
 intro a
 induction a with
 |zero=>omega
 |succ a e=>
  intro n f g;unfold Gr;split
  ·rename_i c;obtain⟨b,d⟩:=e (n:=n/2) aa aa;refine⟨b,?_⟩;rw[alf,<-wQ,<-d];omega
  rename_i c;exact⟨n/2,aa⟩
theorem tS {n:X} (b:0<n):∃a,n=(2*a+1)*2^cZ n:=by unfold cZ;rw[aw aa];exact afx b (fH.1 (bd _))
theorem Qc:∀{s t a b:X},(2*a+1)*2^s=(2*b+1)*2^t->s=t/\a=b
 |0,0,a,b,c=>by omega
 |0,t+1,a,b,c=>by grind
 |s+1,0,a,b,c=>by grind
 |s+1,t+1,a,b,c=>by rw[alf,<-wQ,alf,<-wQ] at c;obtain⟨d,e⟩:=Qc (s:=s) (t:=t) (a:=a) (b:=b) aa;omega
theorem yX {a:X} (c:b=(2*a+1)*2^d):cZ b=d:=by have f:=jN d;have e:0<b:=(by grind);grind [Qc,tS]
theorem Ln (e:0<b) (c:X):cZ (b*2^c)=cZ b+c:=by obtain⟨d,f⟩:=tS e;refine yX (a:=d) ?_;grind
theorem afy {n:X} (a:0<n):n/2^cZ n %2=1:=by grind [anN,alG,tS]
theorem wm {n:X} (a:0<n):cZ n<aS n:=by obtain⟨b,c⟩:=tS a;rw[uH];grind
theorem vF {n k:X} (d:0<n):k<=cZ n↔n %2^k=0:=by
 obtain⟨c,f⟩:=tS d;constructor
 ·intro i;obtain⟨a,b⟩:∃a,cZ n=a+k:=⟨cZ n-k,aa⟩;rw[b,jM,<-wQ] at f;simp_all
 intro j;rcases cR (cZ n) k with e|e
 ·exfalso;obtain⟨a,b⟩:∃a,k=cZ n+(a+1):=⟨k-cZ n-1,aa⟩;have g:n=n/2^k*2^k:=(by grind [Nat.mul_comm,amt]);have l:=jN (cZ n);have h:(2*c+1)*2^cZ n=(2*(n/2^k*2^a))*2^cZ n:=by
   grind
  grind [Nat.eq_of_mul_eq_mul_right]
 omega
def qk (b a:Z):Z:=b*2^a.toNat/2^(-a).toNat
def hq (a b:Z):ajU:=
 if a=0 then Y 0
 else if b+cZ a.natAbs< -65536\/65536<b+aS a.natAbs then bq
 else Y (qk a (b+65536))
def az:ajU->ik
 |none=>(bp,(br,[],()),0,())
 |some a=>if a=0 then(br,(br,[],()),0,()) else(br,aV (a/2^cZ a.natAbs),(cZ a.natAbs:Z)-65536,())
def fv (a:Z):Prop:=aS a.natAbs<=131072
instance(a:Z):akA (fv a):=inferInstanceAs (akA (_<=_))
def om (a:Z):ajU:=if fv a then Y a else bq
def c8 (b:ajU):Prop:=∀a,b=Y a->fv a
theorem lK (b:Z) (a:X):(b*2^a).natAbs=b.natAbs*2^a:=by rw[ub,Int.natAbs_pow];rfl
theorem If (c:a.natAbs %2^b=0):a/2^b*2^b=a:=by grind [Int.ediv_mul_cancel,Int.ofNat_dvd_left,Nat.dvd_of_mod_eq_zero]
theorem A8 (c:a.natAbs %2^b=0):(a/2^b).natAbs=a.natAbs/2^b:=by grind [lK,anN,alG,If]
theorem nU (b:Z) (a:X):qk b a=b*2^a:=by grind [akz,qk]
theorem yS (b:Z) (a:X):qk b (-(a:Z))=b/2^a:=by simp_all [Int.neg_neg,fF,qk]
def cY (a:Z):Z:=a/2^cZ a.natAbs
def hA (a:Z):Z:=(cZ a.natAbs:Z)-65536
theorem tA (a:Z):cY a*2^cZ a.natAbs=a:=by
 rcases sd a.natAbs with b|b
 ·obtain rfl:a=0:=aa;rfl
 exact If ((vF b).1 (bd _))
def P9 (b:a≠0):(cY a).natAbs=a.natAbs/2^cZ a.natAbs:=A8 ((vF aa).1 (bd _))
theorem ki (c:a≠0):cY a≠0:=λb=>by grind [tA]
def Qb (b:e≠0):cZ (cY e).natAbs=0:=by rw[P9 b];have:=afy (n:=e.natAbs) aa;exact yX (a:=e.natAbs/2^cZ e.natAbs/2) aa
theorem ZD (b:a≠0):aS (cY a).natAbs=aS a.natAbs-cZ a.natAbs:=by rw[P9 b,xd]
theorem Fs {v:Z}:cY v<0↔v<0:=by
 have c:=tA v;have b:(0:Z)<2^cZ v.natAbs:=mS ab;constructor
 ·intro a;have:=Int.mul_neg_of_neg_of_pos a b;omega
 grind [alH,aoO,akB]
theorem NX (b:a≠0):az (Y a)=(br,aV (cY a),hA a,()):=by show(if a=0 then _ else _)=_;rw[aw b];rfl
theorem A6 {v:Z} (i:-65536<=a) (c:v=e*2^(a+65536).toNat):hq e a=om v:=by
 obtain⟨d,g⟩:∃d:X,a+65536=d:=⟨(a+65536).toNat,aa⟩;rw[g,fF] at c;unfold hq om;by_cases f:e=0
 ·subst f;simp only[px] at c;subst c;rw[ax bo,ax (show fv 0 from(by decide:aS 0<=131072))]
 rw[aw f];have h:aS v.natAbs=aS e.natAbs+d:=(by grind [lK,so]);by_cases b:fv v
 ·rw[ax b];unfold fv at b;rw[aw aa,g,nU,c]
 rw[aw b];unfold fv at b;grind
theorem Y9 (b:fv a):hq (cY a) (hA a)=Y a:=by
 by_cases c:a=0
 ·subst c;rfl
 rw[A6 (v:=a) (by grind [hA]) (by
  grind [tA,cZ,hA])]
 exact ax b
theorem Jz (f a:Z):c8 (hq f a):=by
 intro i b;unfold hq at b;split at b
 ·cases b;show aS 0<=_;decide
 split at b
 ·cases b
 rename_i g h;cases b;unfold fv;rcases aoP 0 (a+65536) with e|e
 ·obtain⟨c,d⟩:∃c:X,a+65536=c:=⟨(a+65536).toNat,aa⟩;grind [nU,lK,so]
 obtain⟨c,d⟩:∃c:X,a+65536=-(c:Z):=⟨(-(a+65536)).toNat,aa⟩;rw[d,yS,A8 ((vF aa).1 aa),xd];omega
theorem M0 (a:Z):c8 (om a):=by intro c b;grind [om]
def RA (c a d b:X) (f:0<a):c*2^d/a=c*2^(d+b)/a/2^b:=by have e:=jN b;rw[aoN,jM,<-wQ,Nat.mul_div_mul_right _ _ e]
theorem adl (d a c b:X) (m:0<a):d*2^c %a≠0↔(d*2^(c+b) %a≠0\/d*2^(c+b)/a %2^b≠0):=by
 have t:=jN b;have r:=uo (d*2^c) a;have j:=uo (d*2^(c+b)) a;have k:=uo (d*2^(c+b)/a) (2^b);rw[<-RA d a c b m] at k;generalize d*2^(c+b)/a=o at*;generalize d*2^c/a=g at*;generalize d*2^c %a=i at*;generalize d*2^(c+b) %a=h at*;generalize o %2^b=p at*;rw[jM] at j;generalize 2^b=e at*;generalize 2^c=v at*;have l:i*e=a*p+h:=(by have s:(a*g+i)*e=a*o+h:=(by rw[r,j,wQ]);rw[<-k,kq,Nat.mul_add] at s;have w:a*g*e=a*(e*g):=(by grind);omega);constructor
 ·intro y;have x:0<i*e:=aoQ aa t;by_cases n:h=0
  ·right;intro u;subst u;subst n;simp at l;omega
  exact .inl n
 rintro f q;subst q;simp only[al3] at l;rcases f with f|f
 ·omega
 have:=aoQ m (aa:0<p);omega
def tH (a b c:X) (f:bA) (d e:Z):Z:=mK f (b*2^a/c) (d-a) (bu (b*2^a %c≠0)) e
def Kv (h:0<b) (e:0<d) (i:58+aS d<=aS b+m):58<=aS (b*2^m/d):=by
 rcases cR 57 (aS (b*2^m/d)) with a|a
 ·exact a
 exfalso;have c:b*2^m/d<2^57:=fH.1 a;rw[ams e] at c;have f:=(zE e).2;have g:b*2^m<2^57*2^aS d:=iT c (anO _ (Nat.le_of_lt f));rw[<-jM,<-fH,so h] at g;omega
def adj (j:0<d) (f:0<m) (i:58+aS m<=aS d+b) (n:b<=s):tH s d m g a e=tH b d m g a e:=by obtain⟨c,rfl⟩:∃c,s=b+c:=⟨s-b,aa⟩;unfold tH;have o:=Kv j f i;have h:=RA d m b c f;have l:c+53<aS (d*2^(b+c)/m):=(by have:=xd (d*2^(b+c)/m) c;rw[<-h] at this;omega);rw[ad7 (k:=c) l,<-h,(aa:a-((b+c:X):Z)+c=a-b)];congr 1;rw[<-Bool.decide_or,akd];exact(adl d m b c f).symm
def R3 (a b:X) (c d:Z):Z:=mK br (I3 (b*2^a)) ((c-a)/2) (bu (I3 (b*2^a)*I3 (b*2^a)≠b*2^a)) d
def yJ (a b:Z):Z:=if a=0 then 0 else mK (bu (a<0)) (cY a).natAbs (hA a) br b
def qf (a b:X):X:=59+aS b-aS a
def Bw (a b c:Z):Z:=tH (qf (cY a).natAbs (cY b).natAbs) (cY a).natAbs (cY b).natAbs (bu (a<0)!=bu (b<0)) (hA a-hA b) c
def adk {pf:Z} (c:a≠0) (d:e≠0) (f:qf (cY a).natAbs (cY e).natAbs<=b):tH b (cY a).natAbs (cY e).natAbs (bu (a<0)!=bu (e<0)) (hA a-hA e) pf=Bw a e pf:=by have g:=ki c;have h:=ki d;refine adj aa aa ?_ f;unfold qf;omega
def R2 (a:X) (b:Z):X:=if(b-((118-aS a:X):Z)) %2=0 then 118-aS a else 118-aS a+1
def KK (a b:Z):Z:=R3 (R2 (cY a).natAbs (hA a)) (cY a).natAbs (hA a) b
theorem eR {a:bn i} (c:b<a.length):aj a (b:Z)=Y a[b]:=fu (bk c)
theorem B3 (a:b<9223372036854775808):au (b:Z)=(b:Z):=cq aa aa
theorem cD {x:Z} (a:-9223372036854775808<=x) (b:x<=9223372036854775807):au x=x:=cq a b
theorem ba (a:b<9223372036854775807):aH (b:Z)=((b+1:X):Z):=by grind [cq]
theorem gT {x:Z} (a:0<=x) (b:x<18446744073709551616):aY x=x:=B6 a b
def nX {x:Z} (a:0<=x) (b:x<4294967296):eS x=x:=Lz a b
theorem qr (a:Z):eS a=a %4294967296:=Ly a
theorem B8 (a:Z):aY a=a %18446744073709551616:=B5 a
theorem yn (b:0<=a) (c:a<18446744073709551616):eS (eZ bE a 4294967295)=a %4294967296:=by rw[and_low32 b c,nX aa aa]
theorem a5 (a:bn i):ak a=(a.length:Z):=rfl
theorem K3 {a:bn i} (e:b<=a.length):((Y (0:X)).bind λc=>(fY (b:Z)).bind λd=>(gZ c d a.length).map λ_=>(c,d))=Y (0,b):=by simp_all [aI,yx,rv,c5]
theorem tR (n:a2 c) (o:c.length<=100000000):iu (c,())=Y (kD c,()):=by
 unfold iu;refine bN.1 ?_;refine ae.aN (P:=λk=>∃a:X,k.1=(a:Z)/\a<=c.length/\(∀b,a<=b->(i:b<c.length)->c[b]=0)/\fx (c.take a)) ?_ ?_
 ·refine aky (λf=>∃a:X,f.1=(a:Z)/\a<=c.length/\(∀b,a<=b->(i:b<c.length)->c[b]=0)) (λf=>f.1.toNat) ⟨c.length,bo,bd _,λb d e=>by omega⟩ ?_;rintro⟨_,_⟩ ⟨a,rfl,d,e⟩;rcases a with _|a
  ·refine bv.2 ⟨0,bo,c5 _,e,λl j=>by grind⟩
  have ao:au (((a+1:X):Z)-1)=(a:Z):=(by grind [cD]);have h:bu (((a+1:X):Z)>0)=bp:=aJ aa;simp only[ao,h,aks,bH,eR (show a<c.length from d),aI];by_cases g:c[a]=0
  ·rw[gh,aJ g];grind [cm,bv]
  rw[gh,aC g];refine bv.2 ⟨a+1,bo,d,e,λl j=>?_⟩;grind
 rintro⟨_,_⟩ ⟨a,rfl,d,e,m⟩;refine ae.of_eq (af (K3 d) rfl) ?_;grind [SZ]
theorem CU (b:c.length<=100000000):u2 (c,())=Y (c,()):=by unfold u2;have a:((bh (([]:aj0).length+c.length)).bind λ_=>Y (([]++c:aj0),()))=Y (c,()):=(by grind [eC]);show rB c.length (Y ([],())) ((bh (([]:aj0).length+c.length)).bind λ_=>Y (([]++c:aj0),()))=_;unfold rB;grind
theorem vH:(ak c==0)=bu (c=[]):=by simp_all [anE,gh,akd]
theorem xa (d:a2 c) (e:c.length<=100000000):l3 (g,c,())=Y (aV (hg (g,c,())),()):=by unfold l3;refine af (tR d e) ?_;have a:=NV (neg:=g) (Lj c) (SY c);have b:hg (g,kD c,())=hg (g,c,()):=(by grind [Lk,hg]);rw[<-b,<-a];simp only[vH,cW];grind
def Wr (c:a.natAbs<2^(32*b)):(aV a).2.1.length<=b:=by refine vr ?_;unfold bc;have d:(2^(32*b):X)=4294967296^b:=(by rw[anP]);rw[d] at c;have:((4294967296^b:X):Z)=4294967296^b:=ac;omega
def Fit (a:Z):Prop:=(aV a).2.1.length<=31250
def NU (b:X) (c:aS a.natAbs<=32*b):(aV a).2.1.length<=b:=Wr (fH.1 c)
def li (b:aS a.natAbs<=1000000):Fit a:=NU 31250 aa
def Zy {b:pw} (c:a2 b.2.1) (a:b.2.1.length<=100000000):Di (b,())=Y (aV (hg b),()):=by obtain⟨e,d,_⟩:=b;unfold Di;exact af (CU a) (af (xa c a) rfl)
theorem Gu (a:bA) (b:aj0):hg (!a,b,())=-hg (a,b,()):=by unfold hg;cases a<;>simp
theorem Td (b:a2 c) (a:bA):hg (br,c,())=(hg (a,c,())).natAbs:=by have:=gH b;unfold hg;cases a<;>simp<;>omega
def P4 (e:Fit a):sC (aV a,())=Y (aV (-a),()):=by unfold sC;have b:(aV a).2.1.length<=100000000:=di e ab;refine af (CU b) (af (xa (mB a) b) ?_);have c:=Gu (aV a).1 (aV a).2.1;have d:=oS a;rw[c];show Y (aV (-hg (aV a)),())=_;rw[d]
def G1 (d:Fit a):sy (aV a,())=Y (aV a.natAbs,()):=by unfold sy;have b:(aV a).2.1.length<=100000000:=di d ab;refine af (CU b) (af (xa (mB a) b) ?_);rw[Td (mB a) (aV a).1];have c:=oS a;show Y (aV ((hg (aV a)).natAbs:Z),())=_;rw[c]
def SW (c:Fit a):iu ((aV a).2.1,())=Y ((aV a).2.1,()):=by rw[tR (mB a) (di c ab)];have b:=fx.eq (mB a) (Ey a);show Y (e7 (ar (aV a).2.1).toNat,())=_;rw[<-b]
def gS (a:Z):Z:=if a=0 then 0 else if a<0 then-1 else 1
def wh {z:Z} (a:Fit z):pX (aV z,())=Y (gS z,()):=by
 unfold pX;refine af (SW a) ?_;simp only[vH,cW,AF];unfold gS;split
 ·rfl
 show(bif bu (z<0) then _ else _)=_;rw[cW];split<;>rfl
theorem ae.steps {h:i->bw (i⊕q)} {g:q->Prop} (f:X) (d:X->i->Prop) {m:i} (o:d 0 m) (r:∀b a,b<f->d b a->ae (h a) (λ|.inl t=>d (b+1) t|.inr c=>g c)) (p:∀a,d f a->ae (h a) (λ|.inl _=>b7|.inr c=>g c)):ae (jt.loop h m) g:=by
 have s:∀e b a,b+e=f->d b a->∃c,kf h (e+1) a=Y c/\g c:=by
  intro e
  induction e with
  |zero=>
   intro b a n l;obtain rfl:b=f:=n;obtain⟨u,j,k⟩:=p a l;grind [kf]
  |succ e v=>
   intro b a n l;obtain⟨u,j,k⟩:=r b a aa l;grind [kf]
 obtain⟨c,j,k⟩:=s f 0 m aa o;exact⟨c,yk.2 ⟨_,j⟩,k⟩
theorem yZ (b:aj0) (a:X):ar (b.take (a+1))=ar (b.take a)+bc a*b.getD a 0:=by grind [ck,al1,jG,b0,cm]
theorem a2.getD {a:aj0} (d:a2 a) (c:X):0<=a.getD c 0/\a.getD c 0<4294967296:=by
 rcases cR c a.length with b|b
 ·rw[n3,bk b];exact d.get b
 grind
theorem iY (a:b<c.length):c.getD b 0=c[b]:=by grind
theorem pa (a:c.length<=b):c.getD b 0=0:=by grind
theorem Rp (r:a2 c) (s:a2 f) (y:c.length<=10000000) (z:f.length<=10000000):xv (c,f,())=Y (e7 (ar c+ar f).toNat,()):=by
 unfold xv;refine bN.1 ?_;refine ae.aN (P:=λh=>∃i p,h=(i,p,())/\a2 i/\a2 p/\i.length<=10000000/\p.length<=i.length/\ar i+ar p=ar c+ar f) ?_ ?_
 ·simp only[cW];refine ae.ite (λj=>bv.2 ⟨f,c,bo,s,r,z,?_,amD _ _⟩) λj=>bv.2 ⟨c,f,bo,r,s,y,?_,bo⟩
  ·grind
  grind
 rintro _ ⟨d,m,rfl,B,C,I,F,w⟩;rw[<-w];clear w r s y z;dsimp only;have A:aH (ak d)=((d.length+1:X):Z):=ba aa;have ao:fj 0 ((d.length+1:X):Z)=Y 0:=(by unfold fj;rw[cc ⟨aa,aa,by have:hB=4294967296:=rfl;omega⟩];rfl);rw[A,ao];refine ae.aN (P:=λh=>∃b a,h=(b,a,())/\a.length=d.length/\a2 a/\0<=b/\b<=1/\ar a+bc d.length*b=ar d+ar m) ?_ ?_
 ·refine ae.steps d.length (λe D=>∃b a,D=(b,(e:Z),a,())/\a.length=e/\a2 a/\0<=b/\b<=1/\ar a+bc e*b=ar (d.take e)+ar (m.take e)) ⟨0,[],bo,bo,a2.nil,aa,aa,by simp[ar]⟩ ?_ ?_
  ·rintro e _ t ⟨b,a,rfl,n,k,l,q,v⟩;have G:=B.get t;have H:=C.getD e;have o:∃g,g=d[e]+b+m.getD e 0/\0<=g/\g<18446744073709551616/\g/4294967296<=1:=⟨_,bo,aa,aa,aa⟩;obtain⟨g,o,J,K,E⟩:=o;have u:bu ((e:Z)<ak d)=bp:=aJ (by grind);simp only[u,bH,eR t,aI];refine ae.aN (P:=λh=>h=(g/4294967296,a++[g %4294967296],())) ?_ ?_
   ·refine ae.aN (P:=λh=>h=(g,a,())) ?_ ?_
    ·simp only[cW];refine ae.ite (λj=>?_) λj=>?_
     ·grind [gT,bv,iY,eR,a5]
     have j:m.length<=e:=(by grind);rw[pa j] at o;refine bv.2 ?_;rw[gT (x:=d[e]) aa aa,gT (x:=d[e]+b) aa aa,o,al4]
    grind [eC,yn,pp,bv]
   rintro _ rfl;dsimp only;refine bv.2 ⟨g/4294967296,a++[g %4294967296],by rw[ba aa],by grind,k.snoc aa aa,aa,E,?_⟩;rw[qp,n,j3,jG t,yZ];grind
  rintro _ ⟨b,a,rfl,n,k,l,q,v⟩;have u:bu ((d.length:Z)<ak d)=br:=aC (by grind);simp only[u,bR];refine bv.2 ⟨b,a,bo,n,k,l,q,?_⟩;simp_all [fW,bd]
 rintro _ ⟨b,a,rfl,n,k,l,q,v⟩;dsimp only;rw[eC (by grind),nX l aa];refine ae.of_eq (af bo (af (tR (k.snoc l aa) (by grind)) rfl)) ?_;grind [qp,kD]
def iK (b:aj0) (c:X):Prop:=∀a,c<=a->(d:a<b.length)->b[a]=0
def iK.nk (b a:X):iK (bJ b (0:Z)) a:=λd _ c=>by simp
def iK.set {b:aj0} {a:X} (c:iK b a) (e:Z):iK (b.set a e) (a+1):=λd f g=>by rw[amE aa];exact c d aa _
def iK.K0 {j:X} (a:iK c b) (f:Z) (g:j<b):iK (c.set j f) b:=λe d h=>by rw[amE aa];exact a e d _
theorem PI (q:a2 c) (r:a2 f) (C:c.length<=10000000) (y:f.length<=c.length) (z:ar f<=ar c):xu (c,f,())=Y (e7 (ar c-ar f).toNat,()):=by
 unfold xu;refine bN.1 ?_;simp only[a5,iP (aa:c.length<=4294967296),aI];refine ae.aN (P:=λh=>∃a b,h=(a,())/\a.length=c.length/\a2 a/\0<=b/\b<=1/\ar a-bc c.length*b=ar c-ar f) ?_ ?_
 ·refine ae.steps c.length (λd t=>∃b a,t=(b,(d:Z),a,())/\a.length=c.length/\a2 a/\iK a d/\0<=b/\b<=1/\ar a-bc d*b=ar (c.take d)-ar (f.take d)) ⟨0,_,bo,ac,a2.nk _,iK.nk _ _,aa,aa,by simp[ar,tU]⟩ ?_ ?_
  ·rintro d _ l ⟨b,a,rfl,i,g,n,j,k,o⟩;have A:=q.get l;have B:=r.getD d;obtain⟨e,x,u,v⟩:∃e,e=c[d]-b-f.getD d 0/\-4294967296<=e/\e<4294967296:=⟨_,bo,aa,aa⟩;have m:bu ((d:Z)<(c.length:Z))=bp:=aJ aa;simp only[a5,m,bH,eR l,aI];refine ae.aN (P:=λh=>h=(-(e/4294967296),a.set d (e %4294967296),())) ?_ ?_
   ·refine ae.aN (P:=λh=>h=(e %18446744073709551616,a,())) ?_ ?_
    ·simp_all [pa,bv,B8,eR,iY,ae.ite,cW]
    rintro _ rfl;dsimp only;rw[yn aa aa,mh aa,pp];refine bv.2 ?_;rw[w6 1 aa aa 1 ab ab];grind
   rintro _ rfl;dsimp only;refine bv.2 ⟨-(e/4294967296),a.set d (e %4294967296),by rw[ba aa],by grind,g.set aa aa,n.set _,aa,aa,?_⟩;rw[rP aa,n d (cd _) aa,j3,jG l,yZ];grind
  rintro _ ⟨b,a,rfl,i,g,n,j,k,o⟩;have m:bu ((c.length:Z)<(c.length:Z))=br:=aC aa;simp only[a5,m,bR];refine bv.2 ⟨a,b,bo,i,g,j,k,?_⟩;simp_all [fW,bd]
 rintro _ ⟨a,b,rfl,i,g,j,k,o⟩;dsimp only;have p:=iB g;have w:=hh c.length;rw[i] at p;have s:b=0:=(by grind);subst s;refine ae.of_eq (af (tR g aa) rfl) ?_;grind [kD]
def fI (a b:Z):Z:=if a<b then-1 else if b<a then 1 else 0
theorem HC (a b:Z):uQ (a,b,())=Y (fI a b,()):=by grind [uQ,su,fI]
theorem VP (a b:Z):CY (a,b,())=Y (fI a b,()):=by grind [CY,C0,fI]
theorem Gv (e:a2 c) (g:a2 f) (h:b<c.length) (i:b<f.length) (a:ar (c.drop (b+1))=ar (f.drop (b+1))) (l:c[b]<f[b]):ar c<ar f:=by rw[qq c b aa,qq f b aa,nW h,nW i,a];have d:=iB (e.take b);have j:=gH (g.take b);rw[gK,h6 aa] at d;have k:bc b*(c[b]+1)<=bc b*f[b]:=mR aa (gB (hh b));grind
theorem rQ (a:a2 f) (b:a2 c) (d:fx c) (e:f.length<c.length):ar f<ar c:=by have g:=iB a;have h:=fx.low b d (by grind);have i:=rG (m:=f.length) (n:=c.length-1) aa;omega
theorem Nk (g:a2 c) (h:a2 f) (q:fx c) (r:fx f) (u:c.length<=10000000) (v:f.length<=10000000):xq (c,f,())=Y (fI (ar c) (ar f),()):=by
 unfold xq;refine bN.1 ?_;simp only[fq,a5];by_cases m:c.length=f.length
 ·rw[aJ (aa:(c.length:Z)=f.length)];simp only[gI,bR];refine ae.aN (P:=λn=>match n with|.inl _=>ar c=ar f|.inr o=>o=(fI (ar c) (ar f),())) ?_ ?_
  ·refine ae.steps c.length (λd p=>p=(((c.length:X):Z)-1-d,())/\ar (c.drop (c.length-d))=ar (f.drop (c.length-d))) ⟨?_,?_⟩ ?_ ?_
   ·grind [cD]
   ·rw[pC aa,pC aa]
   ·rintro d _ s ⟨rfl,e⟩;obtain⟨a,t⟩:∃a,c.length=a+1+d:=⟨c.length-1-d,aa⟩;have ao:((c.length:X):Z)-1-(d:Z)=(a:Z):=aa;have j:a<c.length:=aa;have k:a<f.length:=aa;rw[(aa:c.length-d=a+1)] at e;simp only[ao,aJ (aa:(a:Z)>=0),bH,eR j,eR k,aI,VP];by_cases i:c[a]=f[a]
    ·simp only[aJ i,gI,bR];grind [nW,cD,bv]
    simp only[aC i,ml,bH];refine bv.2 ?_;show(fI c[a] f[a],())=_;have l:fI c[a] f[a]=fI (ar c) (ar f):=by
     unfold fI;rcases Int.lt_or_gt_of_ne i with b|b
     ·rw[ax b,ax (Gv g h j k e b)]
     have:=Gv h g k j e.symm b;omega
    rw[l]
   rintro _ ⟨rfl,e⟩;have ao:¬(((c.length:X):Z)-1-(c.length:Z)>=0):=aa;simp_all [bv,aC,bR]
  grind [bv,fI,ar]
 rw[aC (aa:¬(c.length:Z)=f.length)];simp only[ml,bH,HC,aI];refine bv.2 ?_;congr 1;unfold fI;rcases Nat.lt_or_gt_of_ne m with b|b
 ·rw[ax aa,ax (rQ g h r b)]
 have:=rQ h g q b;omega
def JD (c:0<=e/\e<4294967296) (b:0<=a/\a<4294967296):0<=e*a/\e*a<=18446744065119617025:=by refine⟨r4 c.1 b.1,?_⟩;have d:e*a<=4294967295*a:=anQ aa b.1;omega
theorem aef (x:0<=a/\a<4294967296) (w:a2 c) (K:b+c.length<d) (I:d<=100000000) (u:f.length=d) (v:a2 f) (z:iK f (b+c.length)) {p:iJ->Prop} (J:∀h e,e.length=d->a2 e->iK e (b+c.length)->0<=h->h<4294967296->ar e+bc (b+c.length)*h=ar f+bc b*(a*ar c)->p (h,e,())):ae (loop (σ:=pP) (ρ:=iJ) (λ(k,j,m,_)=>
 bif bu (j<ak c) then
 (aj c j).bind λr=>
 rd m (au ((b:Z)+j)) λs=>
 wr m (au ((b:Z)+j)) (eS (eZ bE (aY (aY (aY (aY a*aY r)+aY s)+k)) 4294967295)) λH=>
 (eJ bE (aY (aY (aY (aY a*aY r)+aY s)+k)) 32).bind λG=>
 Y (.inl (G,aH j,H,())) else
 Y (.inr (k,m,()))) (0,0,f,())) p:=by
 refine ae.steps c.length (λg D=>∃h e,D=(h,(g:Z),e,())/\e.length=d/\a2 e/\iK e (b+c.length)/\0<=h/\h<4294967296/\ar e+bc (b+g)*h=ar f+bc b*(a*ar (c.take g))) ⟨0,f,bo,u,v,z,aa,aa,by simp[ar]⟩ ?_ ?_
 ·rintro g _ l ⟨h,e,rfl,ay,o,q,A,B,C⟩;have y:=w.get l;have M:=o.get (n:=b+g) aa;have L:=JD x y;obtain⟨i,N,E,F⟩:∃i,i=a*c[g]+e[b+g]+h/\0<=i/\i<18446744073709551616:=⟨_,bo,aa,aa⟩;simp only[aJ (show(g:Z)<ak c by grind),bH,eR l,aI];have ao:au ((b:Z)+(g:Z))=((b+g:X):Z):=(by grind [cD]);rw[ao,jq aa];have t:aY (aY (aY (aY a*aY c[g])+aY e[b+g])+h)=i:=by
   grind [gT]
  rw[t,yn E F,mh aa,pp];refine bv.2 ⟨i/4294967296,e.set (b+g) (i %4294967296),by rw[ba aa],by grind,o.set aa aa,q.K0 _ aa,aa,aa,?_⟩;rw[rP aa,(aa:b+(g+1)=(b+g)+1),j3,jG l];grind [wz,al5]
 rintro _ ⟨h,e,rfl,ay,o,q,A,B,C⟩;simp_all [fW,bd,bv,aC,a5,bR,ak]
theorem afn (v:a2 f) (w:a2 c) (z:f.length<=10000000) (A:c.length<=10000000):Dk (f,c,())=Y (e7 (ar f*ar c).toNat,()):=by
 unfold Dk;refine bN.1 ?_;simp only[vH];refine ae.aN (P:=λp=>match p with|.inl _=>f≠[]/\c≠[]|.inr h=>h=(e7 (ar f*ar c).toNat,())) ?_ ?_
 ·by_cases l:f=[]
  ·simp only[aJ l];refine bv.2 ?_;subst l;simp[ar];rfl
  simp only[aC l,aks,bH];by_cases r:c=[]
  ·simp only[aJ r,bH];refine bv.2 ?_;subst r;simp[ar];rfl
  simp_all [aC,bR,bv]
 rintro(p|p) x
 rotate_left
 ·grind [bv]
 clear x;dsimp only;have u:au (ak f+ak c)=((f.length+c.length:X):Z):=(by grind [cD,a5]);rw[u,iP aa,bM];refine ae.aN (P:=λh=>∃a,h=(a,())/\a.length=f.length+c.length/\a2 a/\ar a=ar f*ar c) ?_ ?_
 ·refine ae.steps f.length (λb y=>∃a,y=((b:Z),a,())/\a.length=f.length+c.length/\a2 a/\iK a (b+c.length)/\ar a=ar (f.take b)*ar c) ⟨_,bo,ac,a2.nk _,iK.nk _ _,by simp[ar,tU]⟩ ?_ ?_
  ·rintro b _ m ⟨a,rfl,ay,g,q,t⟩;simp only[aJ (show(b:Z)<ak f by grind),bH,eR m,bM];refine ae.aN (P:=λh=>∃e d,h=(e,d,())/\d.length=f.length+c.length/\a2 d/\iK d (b+c.length)/\0<=e/\e<4294967296/\ar d+bc (b+c.length)*e=ar a+bc b*(f[b]*ar c)) (aef (v.get m) w aa aa ay g q λe d s n i j k o=>⟨e,d,bo,s,n,i,j,k,o⟩) ?_;rintro _ ⟨e,d,rfl,s,n,i,j,k,o⟩;have ao:au ((b:Z)+ak c)=((b+c.length:X):Z):=(by grind [cD,a5]);dsimp only;rw[ao,nX j k,mh aa];refine bv.2 ⟨d.set (b+c.length) e,by rw[ba aa],by grind,n.set j k,?_,?_⟩
   ·rw[(aa:b+1+c.length=b+c.length+1)];exact i.set _
   rw[rP aa,i _ (bd _) aa,jG m,Int.sub_zero,o,t];grind
  rintro _ ⟨a,rfl,ay,g,q,t⟩;simp only[aC (show¬((f.length:Z)<ak f) by grind),bR];refine bv.2 ⟨a,bo,ay,g,?_⟩;grind
 rintro _ ⟨a,rfl,ay,g,q⟩;refine ae.of_eq (af (tR g (by grind)) rfl) ?_;grind [kD]
theorem Yx:∀a:X,a<256->qn Fa (a:Z)=Y (aS a:Z):=by have b:(bL 256).all (λa=>qn Fa (a:Z)==Y (aS a:Z))=bp:=(by decide+kernel);grind
theorem K2 {x y:Z} (a:0<=y) (b:y<=32):eJ .u32 x y=Y (x/2^y.toNat):=by unfold eJ;rw[ax a,show cb.bits=32 from rfl,h6 aa,aoJ _ (by grind)]
def Sy (b:0<=a) (c:a<=32):h4 .u32 e a=Y ((e*2^a.toNat) %4294967296):=by unfold h4;rw[ax b,Ly,show cb.bits=32 from rfl,h6 aa]
def aga (b:0<=a) (c:a<256):anH.wrap a=a:=by unfold alD;refine(aw (ac:¬(br&&bu (a %256>=(128:Z)))=bp)).trans ?_;show a %256=a;omega
def ML {n k:X} (a:2^k<=n):aS n=aS (n/2^k)+k:=by rw[xd];have:=uH.2 a;omega
theorem Pl {n:X} (g:n<4294967296):xC ((n:Z),())=Y ((aS n:Z),()):=by
 unfold xC;refine bN.1 ?_;refine ae.aN (P:=λd=>∃a b:X,d=((a:Z),(b:Z),())/\a<65536/\aS n=aS a+b/\b<=16) ?_ ?_
 ·simp only[cW];refine ae.ite (λe=>?_) λe=>?_
  ·rw[K2 ab ab];refine bv.2 ⟨n/2^16,16,?_,aa,ML aa,aa⟩;simp
  exact bv.2 ⟨n,0,bo,aa,bo,aa⟩
 rintro _ ⟨a,b,rfl,e,h,i⟩;refine ae.aN (P:=λd=>∃a b:X,d=((a:Z),(b:Z),())/\a<256/\aS n=aS a+b/\b<=24) ?_ ?_
 ·simp only[cW];refine ae.ite (λc=>?_) λc=>?_
  ·rw[K2 ab ab];refine bv.2 ⟨a/2^8,b+8,?_,aa,by have:=ML (n:=a) (k:=8) aa;omega,aa⟩;grind [cq]
  grind [bv]
 rintro _ ⟨f,o,rfl,c,j,l⟩;dsimp only;rw[aga aa aa,Yx f c];refine bv.2 ?_;have m:aS f<=8:=fH.2 aa;grind [cq]
theorem Vc {l:aj0} {x:Z} (g:a2 l) (p:0<x):aS (ar l+bc l.length*x).toNat=32*l.length+aS x.toNat:=by
 obtain⟨b,rfl⟩:=fZ (gB p);obtain⟨d,o⟩:=fZ (gH g);have f:=iB g;rw[o] at f|-;have n:bc l.length=((2^(32*l.length):X):Z):=(by simp_all [anP,bc]);rw[n] at f|-;generalize 32*l.length=a at*;have h:0<b:=aa;have j:((d:Z)+((2^a:X):Z)*(b:Z)).toNat=d+2^a*b:=aa;show aS ((d:Z)+((2^a:X):Z)*(b:Z)).toNat=_;rw[j];obtain⟨e,i⟩:=zE h;have q:=qQ h;obtain⟨c,m⟩:∃c,aS b=c+1:=⟨aS b-1,aa⟩;show _=a+aS b;rw[m] at e i|-;have r:d<2^a:=aa;refine MK (k:=a+c) ?_ ?_
 ·rw[jM];have:=anO (2^a) e;grind
 rw[alf,jM] at*;have:=anO (2^a) (aa:b+1<=2^c*2);grind
theorem Pm (d:a2 c) (h:fx c) (k:c.length<=10000000):z2 (c,())=Y ((aS (ar c).toNat:Z),()):=by
 unfold z2;simp only[vH,cW];split
 ·rename_i a;subst a;rfl
 rename_i a;have m:0<c.length:=amF.2 a;have ao:au (ak c-1)=((c.length-1:X):Z):=(by grind [cD,a5]);rw[ao,eR aa];have e:=d.get (n:=c.length-1) aa;have i:c[c.length-1]≠0:=h _ (by rw[List.getLast?_eq_getElem?,bk aa]);have f:ar c=ar (c.take (c.length-1))+bc (c.length-1)*c[c.length-1]:=(by grind [jG,ck]);have b:=Vc (l:=c.take (c.length-1)) (x:=c[c.length-1]) (d.take _) aa;rw[gK,h6 aa,<-f] at b;rw[b];obtain⟨n,g⟩:=fZ e.1;rw[g] at e|-;refine af bo (af (Pl (n:=n) aa) ?_);have j:aS n<=32:=fH.2 aa;grind [cD]
def CP (b:Fit a):sB (aV a,())=Y ((aS a.natAbs:Z),()):=by unfold sB;refine af (SW b) (af (Pm (mB a) (Ey a) (di b ab)) ?_);rw[jl];rfl
theorem YI (q:d=(2*m+1)*2^b) (l:d<2^32):d&&&(2^32-d)=2^b:=by
 have p:=jN b;have n:0<d:=(by grind);obtain⟨e,g⟩:∃e,d=e+1:=⟨d-1,aa⟩;have k:e=2^b*(2*m)+(2^b-1):=(by grind);have r:d=2^b*(2*m+1)+0:=(by grind);refine aoR λa=>?_;rw[aoS,g,Nat.testBit_two_pow_sub_succ aa,<-g];have ao:d.testBit a=if a<b then br else(2*m+1).testBit (a-b):=by grind
 have i:e.testBit a=if a<b then(2^b-1).testBit a else(2*m).testBit (a-b):=by rw[k,Nat.testBit_two_pow_mul_add _ aa]
 rw[ao,i,anB];by_cases f:a<b
 ·grind
 rw[aw f,aw f];by_cases j:b=a
 ·subst j;have c:b<32:=by
   rcases cR b 32 with c|c
   ·exact c
   have:=wR (ab:1<=2) c;omega
  grind
 obtain⟨h,o⟩:∃h,a-b=h+1:=⟨a-b-1,aa⟩;grind
theorem Vj:∀a:X,a<32->aj pT (2^a*125613361 %4294967296/2^(27:Z).toNat)=Y (a:Z):=by have b:(bL 32).all (λa=>aj pT (2^a*125613361 %4294967296/2^(27:Z).toNat)==Y (a:Z))=bp:=(by decide+kernel);grind
theorem S5 (e:0<b) (c:b<4294967296) (a:Z):eS (eZ cb (b:Z) (eS (0-(b:Z)))*a)=2^cZ b*a %4294967296:=by obtain⟨g,f⟩:=tS e;have ao:eS (0-(b:Z))=((2^32-b:X):Z):=(by grind [qr]);have d:((2^cZ b:X):Z)=2^cZ b:=ac;rw[ao,Mk c aa,YI f c,qr,d]
theorem S6 {n:X} (b:0<n) (a:n<4294967296):xD ((n:Z),())=Y ((cZ n:Z),()):=by have e:cZ n<32:=iT (wm b) (fH.2 a);have d:=Vj _ e;have c:=K2 (x:=eS (eZ cb (n:Z) (eS (0-(n:Z)))*125613361)) (y:=27) ab ab;rw[S5 b a 125613361] at c;unfold xD;show(bif (n:Z)==0 then Y (32,()) else(eJ cb (eS (eZ cb (n:Z) (eS (0-(n:Z)))*125613361)) 27).bind λf=>(aj pT f).bind λg=>Y (au g,()))=_;rw[aM (by grind),S5 b a 125613361,c];refine af bo (af d ?_);grind [cD]
theorem S7 {x:Z} (r:ar (c.take b)=0) (g:b<c.length) (h:a2 c) (s:c[b]≠0):cZ (ar c).toNat=32*b+cZ (c[b]).toNat:=by
 have q:=h.get g;rw[qq c b aa,r,nW g];have p:=gH (h.drop (b+1));generalize ar (c.drop (b+1))=u at*;generalize c[b]=v at*;obtain⟨d,rfl⟩:=fZ q.1;obtain⟨e,rfl⟩:=fZ p;have i:0<d:=aa;obtain⟨j,m⟩:=tS i;have t:cZ d<32:=iT (wm i) (fH.2 aa);have o:bc b=((2^(32*b):X):Z):=(by unfold bc;rw[anP];simp);have k:(0+bc b*((d:Z)+4294967296*(e:Z))).toNat=(d+4294967296*e)*2^(32*b):=(by rw[o,alg,nn (d+4294967296*e)];have:((2^(32*b):X):Z)*((d:Z)+4294967296*(e:Z))=((2^(32*b)*(d+4294967296*e):X):Z):=(by rw[uc];simp);rw[this];rfl);show cZ (0+bc b*((d:Z)+4294967296*(e:Z))).toNat=32*b+cZ d;rw[k,Ln aa,alQ];congr 1;obtain⟨f,n⟩:∃f,32=cZ d+(f+1):=⟨31-cZ d,aa⟩;refine yX (a:=j+2^f*e) ?_;have l:(4294967296:X)=2^cZ d*(2^f*2):=by
  have:(4294967296:X)=2^32:=rfl;rw[this]
  conv=>lhs;rw[n]
  rw[jM,alf]
 rw[l]
 conv=>lhs;lhs;rw[m]
 grind
def S8 {z:Z} (o:Fit z) (r:z≠0):zZ (aV z,())=Y ((cZ z.natAbs:Z),()):=by
 unfold zZ;dsimp only;have i:=mB z;have u:=jl z;have s:(aV z).2.1.length<=31250:=o;generalize(aV z).2.1=b at*;have m:z.natAbs=(ar b).toNat:=aa;rw[m];refine bN.1 (ae.aN (P:=λh=>match h with|.inl _=>b7|.inr p=>p=((cZ (ar b).toNat:Z),())) ?_ ?_)
 ·refine ae.steps b.length (λa q=>q=((a:Z),())/\ar (b.take a)=0) ⟨bo,bo⟩ ?_ ?_
  ·rintro a _ f ⟨rfl,e⟩;have j:=i.get f;simp only[aJ (show(a:Z)<ak b by simp only[a5];omega),bH,eR f,aI,fq];by_cases c:b[a]=0
   ·simp only[aJ c,gI,bR];refine bv.2 ⟨by rw[ba aa],?_⟩;rw[jG f,c,e];simp
   simp only[aC c,ml,bH];have k:=S7 (x:=0) e f i c;rw[k];obtain⟨d,l⟩:=fZ j.1;rw[l] at j c|-;have t:cZ d<32:=iT (wm aa) (fH.2 aa);refine ae.of_eq (af (S6 (n:=d) aa aa) rfl) ?_;show(au (au ((a:Z)*32)+(cZ d:Z)),())=_;rw[cD (x:=(a:Z)*32) aa aa,cD aa aa];congr 1;show _=((32*a+cZ d:X):Z);omega
  rintro _ ⟨rfl,e⟩;exfalso;rw[fW (bd _)] at e;omega
 rintro(h|h) g
 ·exact g.elim
 have g:h=_:=g;rw[g];exact bv.2 bo
theorem FR (a:X):((2^a:X):Z)=(2:Z)^a:=by simp
theorem kY (a:X):(0:Z)<2^a:=mS ab
theorem Bs (a:b<=31):(2:Z)^b<=2147483648:=by have c:=wR (ab:0<2) a;grind
def vY {p:X} (a:p<=32):(4294967296:Z)=2^p*2^(32-p):=by rw[<-mn,(aa:p+(32-p)=32)];rfl
theorem qu (a:X):bc a=2^(32*a):=by unfold bc;rw[Int.pow_mul];rfl
theorem acH {k:X} {x y:Z} (j:k<=32) (e:0<=x) (f:x<2^k) (g:0<=y) (o:y<4294967296) (i:y %2^k=0):gr .u32 x y=x+y/\x+y<4294967296:=by
 have c:=kY k;have u:=vY j;have t:=kY (32-k);have s:y=2^k*(y/2^k):=(by have:=r3 y (2^k);omega);have r:y/2^k<2^(32-k):=by
  rcases mm (y/2^k) (2^(32-k)) with b|b
  ·exact b
  have:=mR b (gB c);omega
 have q:2^k*(y/2^k+1)<=2^k*2^(32-k):=mR aa (gB c);have p:(2:Z)^k*(y/2^k+1)=2^k*(y/2^k)+2^k:=(by grind);have n:x+y<4294967296:=aa;refine⟨?_,n⟩;obtain⟨d,rfl⟩:=fZ e;obtain⟨a,rfl⟩:=fZ g;have m:d<2^k:=(by have:((d:X):Z)<((2^k:X):Z):=(by simpa using f);omega);have l:a %2^k=0:=(by have:((a %2^k:X):Z)=0:=(by simpa using i);omega);rw[acF aa aa];have h:a=(a/2^k)*2^k:=(by have:=uo a (2^k);rw[l,nn] at this;omega);rw[h,Mn k m];simp
theorem afF {n:X} (F:a2 c) (am:c.length<=10000000) (V:n<=100000000):xw (c,(n:Z),())=Y (e7 (ar c*2^n).toNat,()):=by
 unfold xw;simp only[vH,cW];split
 ·rename_i h;subst h;simp[ar];rfl
 refine bN.1 ?_;obtain⟨a,e,K,ad,I,J⟩:∃a e:X,n=32*a+e/\e<32/\kB bK (n:Z) 32=some (a:Z)/\iR (n:Z) 32=some (e:Z):=by
  refine⟨n/32,n %32,aa,aa,?_,?_⟩
  ·unfold kB;rw[ax ab,GA aa,cq aa aa];simp
  unfold iR;rw[ax ab,GB aa];simp
 have l:=kY e;have E:=vY (p:=e) aa;have w:aH (au ((a:Z)+ak c))=((a+c.length+1:X):Z):=(by simp only[a5];rw[cD aa aa,(ac:(a:Z)+(c.length:Z)=((a+c.length:X):Z)),ba aa]);rw[I,J,aI,aI,w,iP aa,aI];refine ae.aN (P:=λq=>∃d,q=(d,())/\d.length=a+c.length+1/\a2 d/\ar d=bc a*(2^e*ar c)) ?_ ?_
 ·refine ae.steps c.length (λb M=>∃d,M=((b:Z),d,())/\d.length=a+c.length+1/\a2 d/\iK d (a+b+1)/\(∀h:a+b<d.length,d[a+b]<2^e)/\ar d=bc a*(2^e*ar (c.take b))) ⟨_,bo,ac,a2.nk _,iK.nk _ _,λh=>by simp;exact l,by simp[ar,tU]⟩ ?_ ?_
  ·rintro b _ m ⟨d,rfl,ay,g,i,t,o⟩;have s:=F.get m;have G:=g.get (n:=a+b) aa;have H:=t aa;dsimp only;rw[cc (show(b:Z)<ak c by simp only[a5];omega),eR m,bM];have ao:au ((a:Z)+(b:Z))=((a+b:X):Z):=(by rw[cD aa aa];simp);have U:c[b]*2^e<4294967296*2^e:=aoT s.2 l;have T:(2:Z)^e<=2147483648:=Bs aa;obtain⟨f,r,N,O⟩:∃f,f=c[b]*2^e/\0<=f/\f<18446744073709551616:=⟨_,bo,aoO s.1 (akB l),aa⟩;have z:h4 bE (aY c[b]) (aY (e:Z))=Y f:=by
    rw[gT (x:=c[b]) aa aa,gT (x:=(e:Z)) aa aa,nV aa aa,fF,<-r];congr 1;omega
   have A:f %4294967296 %2^e=0:=(by rw[aoU _ ⟨_,E⟩,r,amG]);have B:f/4294967296<2^e:=(by refine anR ab ?_;rw[qy];omega);obtain⟨C,R⟩:=acH (k:=e) (x:=d[a+b]) (y:=f %4294967296) aa G.1 H aa aa A;rw[z];simp only[aI];rw[ao,jq aa,yn N O,C,mh aa,pp,aI,ba aa,nX aa aa,mh (by simp;omega)];refine bv.2 ⟨(d.set (a+b) (d[a+b]+f %4294967296)).set (a+b+1) (f/4294967296),by rw[ba aa],by simp[ay],(g.set aa aa).set aa aa,?_,?_,?_⟩
   ·have:=(i.K0 (d[a+b]+f %4294967296) (j:=a+b) aa).set (f/4294967296);exact this
   ·intro h;show((d.set (a+b) (d[a+b]+f %4294967296)).set (a+b+1) (f/4294967296))[a+b+1]'h<2^e
    rw[aoV];exact B
   have Q:(d.set (a+b) (d[a+b]+f %4294967296))[a+b+1]'(by simp;omega)=0:=by rw[amE aa];exact i _ aa aa
   rw[rP (by simp;omega),Q,rP aa,o,jG m,j3,wz];have S:=r3 f 4294967296;generalize f/4294967296=L at*;generalize f %4294967296=q at*;generalize(2:Z)^e=u at*;generalize c[b]=v at*;generalize d[a+b]=an at*;have D:q=v*u-4294967296*L:=aa;subst D;grind
  rintro _ ⟨d,rfl,ay,g,i,t,o⟩;dsimp only;rw[cw (show¬((c.length:Z)<ak c) by simp only[a5];omega)];refine bv.2 ⟨d,bo,ay,g,?_⟩;rw[o,ck (cd _)]
 rintro _ ⟨d,rfl,ay,g,i⟩;refine ae.of_eq (af (tR g (by show d.length<=_;omega)) rfl) ?_;show(kD d,())=_;rw[kD,i,qu,K,mn];congr 3;grind
def VU (k:a2 c) (o:c.length<=10000000):z7 (c,(),())=Y (bu (ar c≠0),()):=by
 unfold z7;refine bN.1 ?_;refine ae.aN (P:=λi=>∃g,i=(g,())/\(0<=g↔ar c≠0)) ?_ ?_
 ·unfold HW;dsimp only;refine ae.aN (P:=λd=>match d with|.inl _=>ar c=0|.inr i=>0<=i.1/\ar c≠0) ?_ ?_
  ·refine ae.steps c.length (λa m=>m=((a:Z),())/\ar (c.take a)=0) ⟨bo,bo⟩ ?_ ?_
   ·rintro a _ e ⟨rfl,b⟩;have l:=k.get e;simp only[aJ (show(a:Z)<ak c by simp only[a5];omega),bH,eR e,aI,HJ,fq];by_cases h:c[a]=0
    ·simp only[aJ h,gI,bR];refine bv.2 ⟨by rw[ba aa],?_⟩;rw[jG e,h,b];simp
    simp only[aC h,ml,bH];refine bv.2 ⟨by show(0:Z)<=(a:Z);omega,?_⟩;rw[qq c a aa,b,nW e];have j:=gH (k.drop (a+1));have n:0<bc a*(c[a]+4294967296*ar (c.drop (a+1))):=alh (hh a) aa;omega
   rintro _ ⟨rfl,b⟩;simp only[aC (show¬((c.length:Z)<ak c) by simp only[a5];omega),bR];refine bv.2 ?_;rw[fW (bd _)] at b;exact b
  rintro(d|d) f
  ·have f:ar c=0:=f;exact bv.2 ⟨_,bo,by rw[f];simp⟩
  obtain⟨b,j⟩:0<=d.1/\ar c≠0:=f;exact bv.2 ⟨d.1,bo,λ_=>j,λ_=>b⟩
 rintro _ ⟨g,rfl,l⟩;refine bv.2 ?_;show(bu (g>=0),())=_;congr 1;rw[akd];exact l
def Mm (b:X) (c:0<=a) (g:a<4294967296) (e:b<=32):eZ .u32 a (2^b-1)=a %2^b:=by obtain⟨i,rfl⟩:=fZ c;have f:0<2^b:=jN b;have d:(2:Z)^b-1=((2^b-1:X):Z):=(by rw[Int.natCast_sub f];simp);have h:2^b<=2^32:=wR ab e;rw[d,Mk aa aa,anK];simp
def Pv {x b y:Z} {P P':Z} (e:0<b) (f:0<=x/\x<b) (h:0<P):(x+b*y) %(b*P)=0↔x=0/\y %P=0:=by
 constructor
 ·intro a;have g:x=0:=by
   have c:(x+b*y) %b=0:=(by have:=aoU (x+b*y) (show b∣b*P from⟨P,bo⟩);rw[a] at this;simpa using this.symm);rw[Cl,ua f.1 f.2] at c;exact c
  subst g;rw[alg,aoW _ _ e] at a;exact⟨bo,by rcases zc.1 a with d|d;omega;exact d⟩
 rintro⟨rfl,a⟩;rw[alg,aoW _ _ e,a,al6]
theorem Wj {n:X} (i:a2 c) (bs:fx c) (c2:c.length<=10000000) (cs:n<=1000000000):z1 (c,(n:Z),())=Y (e7 (ar c/2^n).toNat,bu (ar c %2^n≠0),()):=by
 unfold z1;dsimp only;refine bN.1 ?_;obtain⟨a,e,a3,cv,av,a1⟩:∃a e:X,n=32*a+e/\e<32/\kB bK (n:Z) 32=some (a:Z)/\iR (n:Z) 32=some (e:Z):=by
  refine⟨n/32,n %32,aa,aa,?_,?_⟩
  ·unfold kB;rw[ax ab,GA aa,cq aa aa];simp
  unfold iR;rw[ax ab,GB aa];simp
 have B:=kY e;have G:=vY (p:=e) aa;have ad:(2:Z)^n=bc a*2^e:=(by rw[qu,a3,mn]);have K:=gH i;rw[av,a1,aI,aI,cW,ad];refine ae.ite (λk=>?_) λk=>?_
 ·have k:c.length<=a:=(by simp only[a5] at k;omega);have m:=iB i;have r:=rG k;have F:bc a*1<=bc a*2^e:=mR aa (gB (hh a));rw[qw K aa,ua K aa];refine bv.2 ?_;show(([]:aj0),bu (ak c>0),())=(e7 0,_,());rw[N0];congr 2;rw[akd];simp only[a5];constructor
  ·intro o C;have:=fx.zero i bs C;rw[this] at o;simp at o
  intro o;have:c≠[]:=λO=>(by rw[O] at o;exact o bo);have:=amF.2 this;omega
 have k:a<c.length:=(by simp only[a5] at k;omega);have w:=i.get k;obtain⟨f,u⟩:∃f,f=ar (c.drop a):=⟨_,bo⟩;have H:0<=f:=(by rw[u];exact gH (i.drop a));have J:ar c=ar (c.take a)+bc a*f:=(by rw[u];exact qq c a aa);have I:=gH (i.take a);have E:=iB (i.take a);rw[gK,h6 aa] at E;have an:ar c/(bc a*2^e)=f/2^e:=(by rw[<-tZ (gB (hh a)),J,za _ _ (by have:=hh a;omega),qw I E,alg]);refine ae.aN (P:=λq=>q=(bu (ar c %(bc a*2^e)≠0),())) ?_ ?_
 ·rw[K3 aa,aI];have ao:List.drop 0 (List.take a c)=c.take a:=mT;show ae ((z7 (List.drop 0 (List.take a c),(),())).bind _) _;rw[ao,VU (i.take a) (by simp;omega),aI];have D:(bu (ar c %(bc a*2^e)≠0))=(bu (ar (c.take a)≠0)||bu (c[a] %2^e≠0)):=by
   have m:=Pv (x:=ar (c.take a)) (b:=bc a) (y:=f) (P:=2^e) (P':=0) (hh a) ⟨I,E⟩ B;rw[<-J] at m;have r:f %2^e=c[a] %2^e:=(by rw[u,nW k,G,lC,Cl]);rw[r] at m;by_cases A:ar (c.take a)=0<;>by_cases T:c[a] %2^e=0<;>simp[A,T,m]
  rw[D];dsimp only;by_cases A:ar (c.take a)=0
  ·simp only[aC (show¬(ar (c.take a)≠0) fromλk=>k A),aks,bH,eR k,aI];rw[gT (x:=(e:Z)) aa aa,Sy aa aa,aI,fF,Int.one_mul];have bx:(2:Z)^e<=2147483648:=Bs aa;rw[ua aa aa,nX aa aa,Mm e w.1 w.2 aa,fq];refine bv.2 ?_;simp
  simp only[aJ (show ar (c.take a)≠0 from A)];exact bv.2 bo
 rintro _ rfl;dsimp only;obtain⟨l,co⟩:∃l,c.length=a+l:=⟨c.length-a,aa⟩;have Q:au (ak c-(a:Z))=((l:X):Z):=(by simp only[a5];rw[cD aa aa];omega);rw[Q,iP aa,bM];have ce:f<bc l:=(by have:=iB (i.drop a);rw[anu,(aa:c.length-a=l),<-u] at this;exact this);refine ae.aN (P:=λq=>∃g,q=(g,())/\g.length=l/\a2 g/\ar g=f/2^e) ?_ ?_
 ·refine ae.steps l (λd bl=>∃g,bl=((d:Z),g,())/\g.length=l/\a2 g/\ar (g.take d)+bc d*(f/2^e/bc d)=f/2^e) ⟨_,bo,ac,a2.nk _,by simp[ar,Ce]⟩ ?_ ?_
  ·rintro d _ ci ⟨g,rfl,ay,z,s⟩;have w:=i.get (n:=a+d) aa;have a4:=i.getD (a+d+1);have D:bu ((d:Z)<ak (bJ l (0:Z)))=bp:=aJ (by simp only[a5,wM];omega);have ao:au ((a:Z)+(d:Z))=((a+d:X):Z):=(by rw[cD aa aa];simp);have R:aH ((a+d:X):Z)=((a+d+1:X):Z):=ba aa;simp only[D,bH,ao,R,eR (aa:a+d<c.length),aI];obtain⟨j,v,L,dl⟩:∃j,j=c[a+d]+4294967296*c.getD (a+d+1) 0/\0<=j/\j<18446744073709551616:=⟨_,bo,aa,aa⟩;have am:f/bc d=j+4294967296*(4294967296*ar (c.drop (a+d+2))):=by
    have m:c.drop a=(c.drop a).take d++c.drop (a+d):=by
     conv=>lhs;rw[<-jK d (c.drop a)]
     rw[r6]
    have r:f=ar ((c.drop a).take d)+bc d*ar (c.drop (a+d)):=by
     rw[u]
     conv=>lhs;rw[m]
     rw[rO,gK,oY,h6 aa]
    have F:=gH ((i.drop a).take d);have o:=iB ((i.drop a).take d);rw[gK,oY,h6 aa] at o;have C:ar (c.drop (a+d))=c[a+d]+4294967296*ar (c.drop (a+d+1)):=nW aa;have U:ar (c.drop (a+d+1))=c.getD (a+d+1) 0+4294967296*ar (c.drop (a+d+2)):=by
     rcases cR (a+d+1) c.length with h|h
     ·rw[iY h];exact nW h
     rw[pa h,pC h,pC aa];rfl
    rw[r,za _ _ (by have:=hh d;omega),qw F o,C,U,v];grind
   have ap:f/2^e/bc d %4294967296=j/2^e %4294967296:=(by have m:f/2^e/bc d=f/bc d/2^e:=(by rw[tZ (gB B),tZ (gB (hh d)),qy]);rw[m,am];have r:∀t:Z,j+4294967296*(4294967296*t)=j+2^e*(4294967296*(2^(32-e)*t)):=λt=>(by generalize(2:Z)^e=M at*;generalize(2:Z)^(32-e)=N at*;rw[show(4294967296:Z)*(4294967296*t)=(M*N)*(4294967296*t) by rw[<-G]];grind);rw[r,za _ _ aa,Cl]);have a0:0<=j/2^e:=qx L (gB B);have c1:j/2^e<=j:=wF _ L;refine ae.aN (P:=λq=>q=(g.set d (j/2^e %4294967296),())) ?_ ?_
   ·refine ae.aN (P:=λq=>q=(j,g,())) ?_ ?_
    ·simp only[cW];refine ae.ite (λh=>?_) λh=>?_
     ·have h:a+d+1<c.length:=(by simp only[a5] at h;omega);rw[eR h,aI,gT (x:=c[a+d+1]) (by have:=i.get h;omega) (by have:=i.get h;omega),nV ab ab];rw[iY h] at v a4;have S:c[a+d+1]*2^(32:Z).toNat %18446744073709551616=4294967296*c[a+d+1]:=by
       rw[show(2:Z)^(32:Z).toNat=4294967296 from rfl];omega
      rw[aI,S,gT aa aa,nb 32 w.1 w.2 aa aa aa aa];refine bv.2 ?_;rw[<-v]
     have h:c.length<=a+d+1:=(by simp only[a5] at h;omega);rw[pa h] at v;rw[gT aa aa];refine bv.2 ?_;rw[v];simp
    rintro _ rfl;dsimp only;rw[gT (x:=(e:Z)) aa aa,tN aa aa,bM,akz,yn a0 aa,mh aa];exact bv.2 bo
   rintro _ rfl;dsimp only;refine bv.2 ⟨g.set d (j/2^e %4294967296),by rw[ba aa],by simp[ay],z.set aa aa,?_⟩;rw[jG (by simp;omega)];simp only[aoV];rw[List.take_set_of_le aa,<-ap,j3,alI 4294967296 (bc d),<-aoX (akB (hh d))];have V:=al5 (f/2^e/bc d) 4294967296;generalize f/2^e/bc d %4294967296=q at*;generalize f/2^e/bc d/4294967296=dg at*;rw[<-V] at s;grind
  rintro _ ⟨g,rfl,ay,z,s⟩;simp only[aC (show¬((l:Z)<ak (bJ l (0:Z))) by simp only[a5,wM];omega),bR];refine bv.2 ⟨g,bo,ay,z,?_⟩;have m:0<=f/2^e:=qx H (gB B);have r:f/2^e<=f:=wF _ H;rw[qw m aa,fW aa] at s;simpa using s
 rintro _ ⟨g,rfl,ay,z,s⟩;refine ae.of_eq (af (tR z (by show g.length<=_;omega)) rfl) ?_;show(kD g,_,())=_;rw[kD,s,an]
section
theorem Bn (a:cr) (b c:Z):gr a b c=gr a c b:=by grind [BitVec.or_comm,gr]
theorem afv {x y:Z} (b:0<=x/\x<4294967296) (a:0<=y/\y<4294967296):h4 .u64 x 32=Y (4294967296*x)/\gr .u64 (4294967296*x) (aY y)=4294967296*x+y:=by
 constructor
 ·grind [nV]
 rw[gT a.1 aa,Bn,nb 32 a.1 a.2 aa aa aa aa,amD]
theorem Rz {x y:Z} (a:0<=x/\x<18446744073709551616) (c:0<y):kB .u64 x y=Y (x/y)/\iR x y=Y (x %y):=by
 constructor
 ·unfold kB;rw[ax aa,GA a.1];have b:x/y<=x:=wF _ a.1;grind [B6,ali]
 unfold iR;grind
section
variable {α B:Type}
def aez {a c d:bn α} (f:b<c.length) (e:α):(a++(c++d)).set (a.length+b) e=a++(c.set b e++d):=by rw[amH _ _ aa,Nat.add_sub_cancel_left,List.set_append_left _ _ f]
end
end
theorem afQ (a:c.length=b+2):ar c=(c[b+1]*4294967296+c[b])*bc b+ar (c.take b):=by grind [jG,j3,ck]
theorem ae.bs {c:bw i} {b:i->bw q} {a:q->Prop} {y:i} (d:c=Y y) (e:ae (b y) a):ae (c.bind b) a:=by grind
theorem Ez (b:0<=a):ar (e7 a.toNat)=a:=by grind [sX]
theorem Wg {h d i b g f c:Z} (l:(g+a*(i+c))+e*d=h) (j:i=e*b+f):(g+a*(f+c))+e*(d+a*(b-0))=h:=by subst j;have ao:a*(e*b+f+c)=a*(f+c)+a*(e*b):=(by grind);have k:e*(d+a*(b-0))=e*d+a*(e*b):=(by grind);omega
def Kw {A B q r:Z} (f:0<B) (b:A=B*q+r) (c:0<=r) (d:r<B):A/B=q/\A %B=r:=by have e:=r3 A B;have a:A/B=q:=(by rw[b,Int.mul_add_ediv_left _ _ aa,qw c d];omega);refine⟨a,?_⟩;rw[a] at e;omega
def NZ (a:X):e7 (a:Z).toNat=e7 a:=by rw[fF]
theorem AG (a:aS d<=32*b):(e7 d).length<=b:=by refine vr ?_;grind [qu,FR,fH]
theorem CV:fI a e>=0↔e<=a:=by grind [fI]
theorem M7:fI a e<0↔a<e:=by grind [fI]
def Cf (a:pw):Prop:=a2 a.2.1/\fx a.2.1/\a.2.1.length<=100000
def h0 {z:Z} (a:aS z.natAbs<=3000000):Cf (aV z):=⟨mB z,Ey z,AG aa⟩
theorem rN (a:a2 c) (b:fx c) (e:c.length<=1000000):iu (c,())=Y (c,()):=by have d:=fx.eq a b;rw[tR a aa];show Y (e7 (ar c).toNat,())=_;grind
theorem w9 {neg:bA} {x:Z} (a:0<=x) (b:(e7 x.toNat).length<=100000000):l3 (neg,e7 x.toNat,())=Y (aV (if neg then-x else x),()):=by grind [Ez,xa,q9,hg]
theorem Wt {x y:X} {k:X} (a:(e7 x).length<=k) (b:(e7 y).length<=k):(e7 (x+y)).length<=k+1:=by refine vr ?_;have c:=NY x;have d:=NY y;have e:=rG a;have f:=rG b;grind [j3,hh]
def Lu {l:aj0} (d:a2 l) (c:l.length<=b) (g:a<=ar l):(e7 a.toNat).length<=b:=by refine vr ?_;have e:=iB d;have f:=rG c;have:=hh b;omega
theorem Mb {a b:pw} (t:Cf a) (u:Cf b):sA (a,b,())=Y (aV (hg a+hg b),()):=by
 obtain⟨j,a,_⟩:=a;obtain⟨k,b,_⟩:=b;obtain⟨c,g,r⟩:=t;obtain⟨d,h,s⟩:=u;dsimp only at c g r d h s;have x:=gH c;have y:=gH d;have ay:=iB c;have z:=iB d;have A:=rG (m:=a.length) (n:=100000) r;have B:=rG (m:=b.length) (n:=100000) s;have C:=hh 100000;have w:∀e:Z,e<=ar a+ar b->(e7 e.toNat).length<=100000001:=λe v=>(by have:(e7 e.toNat).length<=100001:=(by refine vr ?_;grind [j3]);omega);have q:∀e:Z,e<=ar a+ar b->(e7 e.toNat).length<=100000000:=λe v=>(by have:(e7 e.toNat).length<=100001:=(by refine vr ?_;grind [j3]);omega);unfold sA;dsimp only;refine af (rN c g aa) (af (rN d h aa) ?_);dsimp only;cases i:(j==k) with
 |true=>
  have i:j=k:=(by grind);subst i;refine af (Rp c d aa aa) (af (w9 aa (q _ aa)) ?_);grind [hg]
 |false=>
  have i:j=!k:=(by cases j<;>cases k<;>simp at i|-);refine af (Nk c d g h aa aa) ?_;dsimp only;rw[cW];split
  ·rename_i l;have p:ar b<=ar a:=CV.1 l;have o:b.length<=a.length:=by
    rcases cR a.length b.length with f|f
    ·have:=rQ c d h f;omega
    omega
   refine af (PI c d aa o p) (af (w9 aa (q _ aa)) ?_);grind [hg]
  rename_i l;have p:ar a<ar b:=Int.not_le.1 (mt CV.2 l);have o:a.length<=b.length:=by
   rcases cR b.length a.length with f|f
   ·have:=rQ d c g f;omega
   omega
  refine af (PI d c aa o (gB p)) (af (w9 aa (q _ aa)) ?_);grind [hg]
def G3 {x y:Z} (a:aS x.natAbs<=3000000) (b:aS y.natAbs<=3000000):sA (aV x,aV y,())=Y (aV (x+y),()):=by rw[Mb (h0 a) (h0 b),oS,oS]
theorem ae4 {x y:Z} (b:aS x.natAbs<=3000000) (c:aS y.natAbs<=3000000):Dj (aV x,aV y,())=Y (aV (x-y),()):=by unfold Dj;have a:Cf ((!(aV y).1,(aV y).2):pw):=⟨mB y,Ey y,(h0 c).2.2⟩;refine af (Mb (h0 b) a) ?_;rw[oS];have d:hg ((!(aV y).1,(aV y).2):pw)=-y:=(by have:=Gu (aV y).1 (aV y).2.1;have e:=oS y;grind);grind
theorem Zf (f:aS a.natAbs<=3000000) (g:aS e.natAbs<=3000000):Dh (aV a,aV e,())=Y (aV (a*e),()):=by
 unfold Dh;dsimp only;obtain⟨b,h,l⟩:=h0 f;obtain⟨c,i,m⟩:=h0 g;refine af (rN b h aa) (af (rN c i aa) ?_);dsimp only;refine af (afn b c aa aa) ?_;rw[jl,jl,<-Int.natCast_mul,NZ];dsimp only;have n:(e7 (a.natAbs*e.natAbs)).length<=100000000:=(by have:(e7 (a.natAbs*e.natAbs)).length<=200000:=(by refine AG ?_;have:=xc f g;omega);omega);have d:=w9 (neg:=!((aV a).1==(aV e).1)) (x:=((a.natAbs*e.natAbs:X):Z)) aa (by grind);rw[NZ] at d;refine af d ?_;dsimp only;congr 3;show(if(!(bu (a<0)==bu (e<0)))=bp then _ else _)=_;rw[Int.natCast_mul];rcases alH a 0 with j|j<;>rcases alH e 0 with k|k
 ·grind
 ·grind
 ·grind
 grind
theorem M8 {x y:Z} (i:aS x.natAbs<=900000) (l:aS y.natAbs<=900000):zY (aV x,aV y,())=Y (fI x y,()):=by
 obtain⟨c,d,m⟩:=h0 (z:=x) aa;obtain⟨e,f,n⟩:=h0 (z:=y) aa;unfold zY;refine af (wh (li aa)) (af (wh (li aa)) ?_);dsimp only;rw[cW,cW];have h:∀a:Z,a<0/\gS a=-1\/a=0/\gS a=0\/0<a/\gS a=1:=λa=>(by grind [gS]);split
 ·rename_i o;unfold fI;grind
 split
 ·rename_i j k;unfold fI;grind
 rename_i j k;have p:gS x=gS y:=aa;refine af (rN c d aa) (af (rN e f aa) ?_);dsimp only;refine af (Nk c e d f aa aa) ?_;rw[jl,jl];dsimp only;have i:=h x;have l:=h y;have:gS x*fI (x.natAbs:Z) (y.natAbs:Z)=fI x y:=by
  rcases i with⟨g,b⟩|⟨g,b⟩|⟨g,b⟩<;>rw[b]
  ·unfold fI;omega
  ·rw[px];unfold fI;omega
  grind
 grind [cD,fI]
def Zh (b:Z) (a:X):(b.natAbs:Z)*2^a=((b.natAbs*2^a:X):Z):=by simp
theorem CQ:aS (b*2^d)<=aS b+d:=by
 rcases sd b with a|a
 ·grind
 simp_all [so,bd]
theorem aeG (i:aS a.natAbs<=1900000) (h:b<=1048576):qU (aV a,(b:Z),())=Y (aV (a*2^b),0,()):=by obtain⟨c,d,f⟩:=h0 (z:=a) aa;unfold qU;dsimp only;rw[aC (aa:¬((b:Z)< -1048576)),aC (aa:¬((b:Z)>1048576))];refine af bo (af (rN c d aa) ?_);dsimp only;rw[aJ (aa:(b:Z)>=0)];refine af (afF c aa aa) ?_;rw[jl,Zh];have g:(e7 (a.natAbs*2^b)).length<=100000:=AG (by grind [CQ]);have e:=w9 (neg:=(aV a).1) (x:=((a.natAbs*2^b:X):Z)) aa (by grind);refine af e ?_;dsimp only;congr 3;show(if bu (a<0)=bp then _ else _)=_;grind
theorem P3 {m:Z} (b:0<a) (d:0<=m):-m/a=if m %a=0 then-(m/a) else-(m/a+1):=by
 have e:=r3 m a;have f:=zb m (aa:a≠0);have g:=amI m b;split
 ·rename_i c;refine(Kw (A:=-m) (B:=a) (q:=-(m/a)) (r:=0) b ?_ (akY _) b).1;grind
 rename_i c;refine(Kw (A:=-m) (B:=a) (q:=-(m/a+1)) (r:=a-m %a) b ?_ aa aa).1;grind
theorem aeF (u:aS a.natAbs<=1900000) (q:b<=1048576) (r:0<b):qU (aV a,-(b:Z),())=Y (aV (a/2^b),0,()):=by
 obtain⟨e,f,g⟩:=h0 (z:=a) aa;have i:=kY b;unfold qU;dsimp only;rw[aC (aa:¬(-(b:Z)< -1048576)),aC (aa:¬(-(b:Z)>1048576))];refine af bo (af (rN e f aa) ?_);dsimp only;rw[aC (aa:¬(-(b:Z)>=0))];have ao:au (0- -(b:Z))=(b:Z):=(by grind [cD]);rw[ao];refine af (Wj e f aa aa) ?_;rw[jl];have s:0<=(a.natAbs:Z)/2^b:=ali aa aa;have j:(a.natAbs:Z)/2^b<=a.natAbs:=amJ _ aa;have h:∀d:Z,d<=a.natAbs->(e7 d.toNat).length<=100000:=λd t=>Lu (l:=(aV a).2.1) e g (by grind [jl]);have p:(e7 ((a.natAbs:Z)/2^b+1).toNat).length<=100001:=(by have n:=Wt (x:=((a.natAbs:Z)/2^b).toNat) (y:=1) (k:=100000) (h _ j) ab;grind);dsimp only;refine af (y:=(e7 (if a<0/\(a.natAbs:Z) %2^b≠0 then(a.natAbs:Z)/2^b+1 else(a.natAbs:Z)/2^b).toNat,(br,([],())),())) ?_ ?_
 ·refine af (y:=(bu (a<0/\(a.natAbs:Z) %2^b≠0),(br,([],())),())) ?_ ?_
  ·show(bif bu (a<0)==bp then _ else _)=_;by_cases c:a<0
   ·simp[c]
   grind
  dsimp only;by_cases c:a<0/\(a.natAbs:Z) %2^b≠0
  ·rw[aJ c,ax c];refine af (Rp (q9 _) (a2.cons.2 ⟨ab,a2.nil⟩) (by grind) ac) ?_;grind [Ez,ar]
  grind
 dsimp only;refine af (w9 ?_ ?_) ?_
 ·omega
 ·grind
 dsimp only;congr 3;show(if bu (a<0)=bp then _ else _)=_;by_cases c:a<0
 ·rw[ax (aJ c)];have o:=P3 (m:=a.natAbs) i aa;grind
 grind
theorem EO {n:Z} (c:-9223372036854775808<=n) (d:n<=9223372036854775807):uW (n,())=Y (aV n,()):=by
 unfold uW;dsimp only;obtain⟨a,e,b,f⟩:∃a:Z,a=n.natAbs/\0<=a/\a<=9223372036854775808:=⟨_,bo,aa,aa⟩;refine af (y:=(a,(br,([],())),())) ?_ ?_
 ·rw[cW];grind [B8]
 dsimp only;rw[pp,bM,yn b aa,nX (x:=a/4294967296) aa aa];refine af (xa (a2.cons.2 ⟨⟨aa,aa⟩,a2.cons.2 ⟨⟨aa,aa⟩,a2.nil⟩⟩) ac) ?_;grind [ar,hg]
theorem XW (d:a2 c) (s:c.length<=2) {e:cH->Prop} (q:e (ar c,())):ae (loop (σ:=mZ) (ρ:=cH) (λ(j,b,_)=>
 bif bu (b<ak c) then
 (aj c b).bind λo=>
 (h4 bE (aY o) (au (32*b))).bind λp=>
 Y (.inl (gr bE j p,aH b,())) else
 Y (.inr (j,()))) (0,0,())) e:=by
 refine ae.steps c.length (λa n=>n=(ar (c.take a),(a:Z),())) rfl ?_ ?_
 ·rintro a _ g rfl;have i:=d.get g;simp only[aJ (show(a:Z)<ak c by grind),bH,eR g,aI];have k:=gH (d.take a);have f:=iB (d.take a);rw[gK,h6 aa,qu] at f;have ao:au (32*(a:Z))=((32*a:X):Z):=(by grind [cD]);have l:(2:Z)^(32*a)<=4294967296:=by
   rcases(aa:a=0\/a=1) with rfl|rfl<;>decide
  have m:=kY (32*a);have r:c[a]*2^(32*a)<4294967296*4294967296:=(by have:=mR l i.1;omega);have h:0<=c[a]*2^(32*a):=r4 i.1 (gB m);rw[ao,gT (x:=c[a]) aa aa,nV aa aa,aI,fF,ua h aa,nb (32*a) k f h aa aa (amG _ _),ba aa];grind [jG,qu,alI,bv]
 rintro _ rfl;simp_all [bv,fW,bd,aC,a5,bR,ak]
theorem XX {z:Z} (h:0<=z) (c:z<9223372036854775808):Dg (aV z,())=Y (z,bp,()):=by have i:aS z.natAbs<=64:=fH.2 aa;obtain⟨a,b,g⟩:=h0 (z:=z) aa;have d:(aV z).2.1.length<=2:=AG aa;unfold Dg;dsimp only;refine bN.1 ?_;refine ae.bs (rN a b aa) ?_;dsimp only;rw[aC (show¬(ak (aV z).2.1>2) by grind),bR];refine ae.aN (P:=λf=>f=(z,())) (XW a d (by grind [jl])) ?_;rintro _ rfl;have e:(aV z).1=br:=aC aa;dsimp only;rw[e];refine ae.bs (y:=.inr (z,bp,())) ?_ (bv.2 bo);refine af bo ?_;dsimp only[bR];rw[aJ (show z<9223372036854775808 from c)];refine af bo ?_;dsimp only[bH];grind [cD]
theorem Ga (p:a2 c) (q:c.length<=100000000):mA (c,())=Y (kD c,()):=by
 unfold mA;refine bN.1 ?_;refine ae.aN (P:=λh=>∃a:X,h.1=(a:Z)/\a<=c.length/\(∀b,a<=b->(k:b<c.length)->c[b]=0)/\fx (c.take a)) ?_ ?_
 ·refine aky (λe=>∃a:X,e.1=(a:Z)/\a<=c.length/\(∀b,a<=b->(k:b<c.length)->c[b]=0)) (λe=>e.1.toNat) ⟨c.length,bo,bd _,λb f g=>by omega⟩ ?_;rintro⟨_,_⟩ ⟨a,rfl,f,g⟩;rcases a with _|a
  ·refine bv.2 ⟨0,bo,c5 _,g,λm l=>by grind⟩
  have ao:au (((a+1:X):Z)-1)=(a:Z):=(by grind [cD]);have j:bu (((a+1:X):Z)>0)=bp:=aJ aa;simp only[ao,j,aks,bH,eR (show a<c.length from f),aI];by_cases i:c[a]=0
  ·rw[gh,aJ i];grind [cm,bv]
  rw[gh,aC i];refine bv.2 ⟨a+1,bo,f,g,λm l=>?_⟩;grind
 rintro⟨_,_⟩ ⟨a,rfl,f,g,n⟩;dsimp only;refine ae.aN (P:=λh=>h=(c.take a,())) ?_ ?_
 ·refine ae.steps a (λd e=>e=((d:Z),c.take d,())) rfl ?_ ?_
  ·rintro d _ o rfl;simp only[aJ (aa:(d:Z)<(a:Z)),bH,eR (aa:d<c.length),aI];grind [aj5,b0,bv,eC,ba]
  rintro _ rfl;simp_all [bv,aC,bR]
 grind [bv,SZ]
theorem BJ (d:a2 c) (e:c.length<=100000000):l5 (g,c,())=Y (aV (hg (g,c,())),()):=by
 unfold l5;refine af (Ga d e) ?_;have a:=NV (neg:=g) (Lj c) (SY c);have b:hg (g,kD c,())=hg (g,c,()):=(by grind [Lk,hg]);rw[<-b,<-a];dsimp only;cases g
 ·simp
 simp_all [aks,bH,alZ,akd,a5,amF]
theorem tJ (b:a2 c) (d:c.length<=100000000) (e:ar c=a):l5 (g,c,())=Y (aV (if g then-a else a),()):=by grind [BJ,hg]
theorem tL {l:aj0} (a:a2 l) (b:fx l) (d:l.length<=1000000):mA (l,())=Y (l,()):=by have c:=fx.eq a b;rw[Ga a aa];show Y (e7 (ar l).toNat,())=_;grind
def R0 {a:pw} (b:a2 a.2.1) (c:a.2.1.length<=100000000):pZ (a,())=Y (aV (hg a),()):=by unfold pZ;exact af (BJ b c) rfl
def yK (b:aS a.natAbs<=3000000):pZ (aV a,())=Y (aV a,()):=by rw[R0 (mB a) (by have:=(h0 b).2.2;omega),oS]
theorem RZ (b:aS a.natAbs<=3000000):Af (aV a,())=Y (aV (-a),()):=by unfold Af;refine af (BJ (mB a) (by have:=(h0 b).2.2;omega)) ?_;grind [oS,Gu]
theorem Bx (b:aS a.natAbs<=3000000):qY (aV a,())=Y (aV a.natAbs,()):=by unfold qY;refine af (BJ (mB a) (by have:=(h0 b).2.2;omega)) ?_;grind [oS,Td,mB]
theorem kZ {z:Z} (a:aS z.natAbs<=3000000):l4 (aV z,())=Y (gS z,()):=by
 unfold l4;refine af (yK a) ?_;simp only[vH,cW,AF];unfold gS;split
 ·rfl
 show(bif bu (z<0) then _ else _)=_;grind
theorem Bz {z:Z} (d:aS z.natAbs<=3000000):u7 (aV z,())=Y ((aS z.natAbs:Z),()):=by obtain⟨a,b,e⟩:=h0 d;have c:=Pm a b aa;rw[jl] at c;unfold z2 at c;unfold u7;refine af (tL a b aa) ?_;grind
theorem Sc (v:aS a.natAbs<=900000) (s:a≠0):qZ (aV a,())=Y ((cZ a.natAbs:Z),()):=by
 obtain⟨e,i,r⟩:=h0 (z:=a) aa;unfold qZ;refine af (tL e i aa) ?_;have u:=jl a;dsimp only;generalize(aV a).2.1=b at*;have m:a.natAbs=(ar b).toNat:=aa;rw[m];refine bN.1 (ae.aN (P:=λo=>match o with|.inl _=>b7|.inr p=>p=((cZ (ar b).toNat:Z),())) ?_ ?_)
 ·refine ae.steps b.length (λc q=>q=((c:Z),())/\ar (b.take c)=0) ⟨bo,bo⟩ ?_ ?_
  ·rintro c _ f ⟨rfl,j⟩;have h:=e.get f;simp only[aJ (show(c:Z)<ak b by grind),bH,eR f,aI,fq];by_cases d:b[c]=0
   ·simp only[aJ d,gI,bR];grind [jG,bv,ba]
   simp only[aC d,ml,bH];have k:=S7 (x:=0) j f e d;rw[k];obtain⟨g,l⟩:=fZ h.1;rw[l] at h d|-;have t:cZ g<32:=iT (wm aa) (fH.2 aa);refine ae.of_eq (af (S6 (n:=g) aa aa) rfl) ?_;grind [cD]
  grind
 grind [bv]
theorem RB {n:X} (c:n<=1000000000):∃b a:X,n=32*b+a/\a<32/\kB bK (n:Z) 32=Y (b:Z)/\iR (n:Z) 32=Y (a:Z):=by
 refine⟨n/32,n %32,aa,aa,?_,?_⟩
 ·unfold kB;rw[ax ab,GA aa,cq aa aa];simp
 simp_all [ax,GB,iR]
theorem KN {n:X} (u:a2 c) (I:c.length<=10000000) (E:n<=100000000):ae (xJ (c,(n:Z),())) (λl=>∃a,l=(a,())/\a2 a/\ar a=ar c*2^n/\a.length=n/32+c.length+1):=by
 unfold xJ;obtain⟨g,b,H,F,v,w⟩:=RB (n:=n) aa;have j:=kY b;have A:=vY (p:=b) aa;have z:(2:Z)^b<=2147483648:=Bs aa;dsimp only;refine ae.bs v (ae.bs (iP aa) ?_);refine ae.aN (P:=λl=>∃d a,l=(d,a,())/\a.length=g+c.length/\a2 a/\0<=d/\d<2^b/\ar a+bc (g+c.length)*d=bc g*(2^b*ar c)) ?_ ?_
 ·refine ae.steps c.length (λe y=>∃d a,y=(d,(e:Z),a,())/\a.length=g+e/\a2 a/\0<=d/\d<2^b/\ar a+bc (g+e)*d=bc g*(2^b*ar (c.take e))) ⟨0,bJ g 0,bo,ac,a2.nk _,aa,j,by simp[ar,tU]⟩ ?_ ?_
  ·rintro e _ m ⟨d,a,rfl,ay,h,i,q,k⟩;have o:=u.get m;simp only[aJ (show(e:Z)<ak c by grind),bH,eR m,aI,w];have C:c[e]*2^b<4294967296*2^b:=zd o.2 j;have B:c[e]*2^b<=4294967295*2^b:=anQ aa aa;have D:0<=c[e]*2^b:=r4 o.1 (gB j);obtain⟨f,G,J,K,L⟩:∃f,f=d+c[e]*2^b/\0<=f/\f<18446744073709551616/\f<4294967296*2^b:=⟨_,bo,aa,aa,aa⟩;have r:h4 bE (aY c[e]) (b:Z)=Y (c[e]*2^b):=by
    rw[gT (x:=c[e]) aa aa,nV aa aa,fF];congr 1;omega
   have s:gr bE d (c[e]*2^b)=f:=(by grind [nb,amG]);have t:f/4294967296<2^b:=anR ab aa;rw[r,aI,s,eC (by grind),pp,qr];refine bv.2 ⟨f/4294967296,a++[f %4294967296],by rw[ba aa],by grind,h.snoc aa aa,aa,t,?_⟩;grind [wz,al5,qp,j3,jG]
  rintro _ ⟨d,a,rfl,ay,h,i,q,k⟩;simp only[aC (show¬((c.length:Z)<ak c) by grind),bR];rw[fW (bd _)] at k;grind [bv]
 rintro _ ⟨d,a,rfl,ay,h,i,q,k⟩;dsimp only;rw[nX i aa,eC (by grind)];refine bv.2 ⟨a++[d],bo,h.snoc i aa,?_,by grind⟩;grind [qp,qu,aoY]
theorem RK (g:a2 c) (h:a2 f) (o:fx c) (p:fx f) (t:c.length<=10000000) (u:f.length<=10000000):Ag (c,f,())=Y (fI (ar c) (ar f),()):=by
 unfold Ag;refine bN.1 ?_;simp only[fq,a5];by_cases s:c.length=f.length
 ·rw[aJ (aa:(c.length:Z)=f.length)];simp only[gI,bR];refine ae.aN (P:=λl=>match l with|.inl _=>ar c=ar f|.inr m=>m=(fI (ar c) (ar f),())) ?_ ?_
  ·refine ae.steps c.length (λb n=>n=(((c.length:X):Z)-1-b,())/\ar (c.drop (c.length-b))=ar (f.drop (c.length-b))) ⟨?_,?_⟩ ?_ ?_
   ·grind [cD]
   ·rw[pC aa,pC aa]
   ·rintro b _ q ⟨rfl,e⟩;obtain⟨a,r⟩:∃a,c.length=a+1+b:=⟨c.length-1-b,aa⟩;have ao:((c.length:X):Z)-1-(b:Z)=(a:Z):=aa;have i:a<c.length:=aa;have j:a<f.length:=aa;rw[(aa:c.length-b=a+1)] at e;simp only[ao,aJ (aa:(a:Z)>=0),bH,eR i,eR j,aI];by_cases k:c[a]=f[a]
    ·simp only[aJ k,gI,bR];grind [nW,cD,bv]
    simp only[aC k,ml,bH];rw[cW];refine ae.ite (λd=>?_) λd=>?_
    ·refine bv.2 ?_;show((-1:Z),())=_;unfold fI;rw[ax (Gv g h i j e d)]
    refine bv.2 ?_;show((1:Z),())=_;have:=Gv h g j i e.symm aa;grind [fI]
   rintro _ ⟨rfl,e⟩;have ao:¬(((c.length:X):Z)-1-(c.length:Z)>=0):=aa;simp_all [bv,aC,bR]
  grind [bv,fI,ar]
 rw[aC (aa:¬(c.length:Z)=f.length)];simp only[ml,bH];rw[cW];unfold fI;refine ae.ite (λd=>bv.2 ?_) λd=>bv.2 ?_
 ·rw[ax (rQ g h p aa)]
 have:=rQ h g o aa;grind
theorem Yy (j:a2 c) (v:m<32) (u:d+b<c.length) (t:a=ar (c.drop d)):a/2^m/bc b %4294967296=(c[d+b]+4294967296*c.getD (d+b+1) 0)/2^m %4294967296:=by
 have q:=kY m;have s:=vY (p:=m) aa;have r:a/bc b=(c[d+b]+4294967296*c.getD (d+b+1) 0)+4294967296*(4294967296*ar (c.drop (d+b+2))):=by
  have h:c.drop d=(c.drop d).take b++c.drop (d+b):=(by grind [alL,alu]);have g:a=ar ((c.drop d).take b)+bc b*ar (c.drop (d+b)):=(by grind [rO,aki,anu,alF]);have l:=gH ((j.drop d).take b);have i:=iB ((j.drop d).take b);rw[gK,oY,h6 aa] at i;have n:ar (c.drop (d+b))=c[d+b]+4294967296*ar (c.drop (d+b+1)):=nW aa;have o:ar (c.drop (d+b+1))=c.getD (d+b+1) 0+4294967296*ar (c.drop (d+b+2)):=by
   rcases cR (d+b+1) c.length with f|f
   ·grind [nW,iY]
   rw[pa f,pC f,pC aa];rfl
  rw[g,za _ _ aa,qw l i,n,o];grind
 have h:a/2^m/bc b=a/bc b/2^m:=(by rw[tZ (gB q),tZ (gB (hh b)),qy]);rw[h,r];generalize c[d+b]+4294967296*c.getD (d+b+1) 0=k;have g:∀e:Z,k+4294967296*(4294967296*e)=k+2^m*(4294967296*(2^(32-m)*e)):=λe=>(by grind);rw[g,za _ _ aa,Cl]
theorem YG (a:a2 c) (k:m<32) (i:d<c.length):(bu (ar c %(bc d*2^m)≠0))=(bu (ar (c.take d)≠0)||bu (c[d] %2^m≠0)):=by have g:=kY m;have j:=vY (p:=m) aa;have h:=gH (a.take d);have e:=iB (a.take d);rw[gK,h6 aa] at e;have f:=Pv (x:=ar (c.take d)) (b:=bc d) (y:=ar (c.drop d)) (P:=2^m) (P':=0) (hh d) ⟨h,e⟩ g;rw[<-qq c d aa] at f;simp_all [nW,lC,Cl,ar]
theorem KO {a:aj0} {n:X} (f:a2 a) (a4:a.length<=10000000) (a0:n<=1000000000):ae (xK (a,(n:Z),())) (λh=>∃e,h=(e,bu (ar a %2^n≠0),())/\a2 e/\ar e=ar a/2^n/\e.length<=a.length):=by
 unfold xK;obtain⟨b,d,R,C,o,O⟩:=RB (n:=n) aa;have y:=kY d;have am:=vY (p:=d) aa;have V:(2:Z)^d<=2147483648:=Bs aa;have K:(2:Z)^n=bc b*2^d:=(by rw[qu,R,aoY]);have E:=gH f;dsimp only;refine ae.aN (P:=λh=>h=(bu (ar (a.take b)≠0),())) ?_ ?_
 ·have a3:∀c,min b a.length=c->bu (ar (a.take b)≠0)=bu (ar (a.take c)≠0):=λc s=>by
   grind
  refine ae.steps (min b a.length) (λc m=>m=(bu (ar (a.take c)≠0),(c:Z),())) (by simp[ar]) ?_ ?_
  ·rintro c _ s rfl;have q:=f.get (n:=c) aa;simp only[o,aI,aJ (aa:(c:Z)<(b:Z)),aks,bH,aJ (show(c:Z)<ak a by grind),eR (aa:c<a.length),ba (aa:c<9223372036854775807),fq];have v:ar (a.take (c+1))=ar (a.take c)+bc c*a[c]:=jG aa;have ad:=gH (f.take c);have w:=hh c;by_cases i:ar (a.take c)=0
   ·rw[aC (show¬(ar (a.take c)≠0) fromλk=>k i)];refine bv.2 ?_;show((!bu (a[c]=0)),_,())=_;congr 1;rw[v,i];by_cases U:a[c]=0
    ·grind
    have:=alh w (aa:0<a[c]);grind
   rw[aJ (show ar (a.take c)≠0 from i)];refine bv.2 ?_;show(bp,_,())=_;congr 1;have:=r4 (gB w) q.1;grind
  rintro _ rfl;simp only[o,aI];by_cases i:min b a.length<b
  ·simp only[aJ (aa:((min b a.length:X):Z)<(b:Z)),aks,bH,aC (show¬(((min b a.length:X):Z)<ak a) by grind),bR,aI];grind [bv]
  simp only[aC (aa:¬(((min b a.length:X):Z)<(b:Z))),show(br==bp)=br from rfl,bR,aI];grind [bv]
 rintro _ rfl;dsimp only;refine ae.bs O (ae.bs o ?_);rw[K];rcases cm b a.length with k|k
 ·obtain⟨g,z⟩:∃g,g=ar (a.drop b):=⟨_,bo⟩;have A:0<=g:=(by rw[z];exact gH (f.drop b));have Q:ar a=ar (a.take b)+bc b*g:=(by grind [qq]);have N:=gH (f.take b);have B:=iB (f.take b);rw[gK,h6 aa] at B;have an:ar a/(bc b*2^d)=g/2^d:=by
   rw[<-tZ (gB (hh b)),Q,za _ _ aa,qw N B,alg]
  obtain⟨l,av⟩:∃l,a.length=b+l:=⟨a.length-b,aa⟩;have ap:g<bc l:=(by have:=iB (f.drop b);grind);have J:=YG f C k;refine ae.aN (P:=λh=>∃e,h=(bu (ar a %(bc b*2^d)≠0),e,())/\e.length=l/\a2 e/\ar e=g/2^d) ?_ ?_
  ·refine ae.steps l (λc m=>∃e,m=(if c=0 then bu (ar (a.take b)≠0) else bu (ar a %(bc b*2^d)≠0),((b+c:X):Z),e,())/\e.length=c/\a2 e/\ar e+bc c*(g/2^d/bc c)=g/2^d) ⟨[],bo,bo,a2.nil,by simp[ar,Ce]⟩ ?_ ?_
   ·rintro c _ s ⟨e,rfl,ay,t,F⟩;have q:=f.get (n:=b+c) aa;have S:=f.getD (b+c+1);obtain⟨j,D,T,bl⟩:∃j,j=a[b+c]+4294967296*a.getD (b+c+1) 0/\0<=j/\j<18446744073709551616:=⟨_,bo,aa,aa⟩;have L:g/2^d/bc c %4294967296=j/2^d %4294967296:=(by rw[D];exact Yy f C aa z);have a1:0<=j/2^d:=ali T (akB y);have G:aH ((b+c:X):Z)=((b+c+1:X):Z):=ba aa;dsimp only;rw[aQ (aJ (show((b+c:X):Z)<ak a by grind))];refine ae.aN (P:=λh=>h=(bu (ar a %(bc b*2^d)≠0),e++[j/2^d %4294967296],())) ?_ ?_
    ·refine ae.bs (eR aa) ?_;refine ae.aN (P:=λh=>h=(j,e,())) ?_ ?_
     ·rw[G,cW];refine ae.ite (λi=>?_) λi=>?_
      ·have i:b+c+1<a.length:=(by grind);rw[eR i,aI,gT (x:=a[b+c+1]) (by grind) (by grind),nV ab ab];rw[iY i] at D S;have H:a[b+c+1]*2^(32:Z).toNat %18446744073709551616=4294967296*a[b+c+1]:=by
        grind
       rw[aI,H,gT aa aa,nb 32 q.1 q.2 aa aa aa aa];grind [bv]
      grind [a5,pa,gT,bv]
     rintro _ rfl;dsimp only;refine ae.aN (P:=λh=>h=(bu (ar a %(bc b*2^d)≠0),e,())) ?_ ?_
     ·refine ae.bs o ?_;by_cases M:c=0
      ·subst M;have r:(((b+0:X):Z)==(b:Z))=bp:=ac;rw[r];simp only[aks,bH];refine ae.bs (eR aa) ?_;rw[Sy aa aa,aI,fF,Int.one_mul,ua aa aa,nX aa aa,Mm d (f.get (n:=b+0) aa).1 (f.get (n:=b+0) aa).2 aa,fq,J];grind [aC,bv,aJ]
      have r:(((b+c:X):Z)==(b:Z))=br:=(by grind);rw[r];simp only[show(br==bp)=br from rfl,bR];simp_all [aw,bv]
     rintro _ rfl;dsimp only;rw[tN aa aa,bM,akz,eC (by grind),qr];grind [bv]
    rintro _ rfl;dsimp only;refine bv.2 ⟨e++[j/2^d %4294967296],by grind,by grind,t.snoc aa aa,?_⟩;rw[qp,ay,<-L,j3,alI 4294967296 (bc c),<-aoX (akB (hh c))];grind
   rintro _ ⟨e,rfl,ay,t,F⟩;dsimp only;rw[aM (aC (show¬(((b+l:X):Z)<ak a) by grind)),cw aa];refine bv.2 ⟨e,bo,ay,t,?_⟩;have u:0<=g/2^d:=ali A (akB y);have I:g/2^d<=g:=amJ _ A;rw[Int.ediv_eq_zero_of_lt u aa] at F;omega
  grind [bv]
 have u:=iB f;have I:=rG k;have v:bc b*1<=bc b*2^d:=mR aa (gB (hh b));rw[qw E aa,ua E aa,fW k];refine ae.aN (P:=λh=>h=(bu (ar a≠0),[],())) ?_ ?_
 ·refine ae.steps 0 (λc m=>m=(bu (ar a≠0),(b:Z),[],())) rfl (λc m s=>by omega) ?_;rintro _ rfl;simp_all [bv,aM,aC,ak]
 rintro _ rfl;exact bv.2 ⟨[],bo,a2.nil,bo,ac⟩
theorem adz (o:a2 c) (p:a2 f) (y:c.length<=10000000) (z:f.length<=10000000):ae (DW (c,f,())) (λh=>∃a,h=(a,())/\a2 a/\ar a=ar c+ar f/\a.length<=c.length+f.length+1):=by
 unfold DW;dsimp only;obtain⟨g,u⟩:∃g,g=max c.length f.length:=⟨_,bo⟩;have q:(if ak f>ak c then ak f else ak c)=(g:Z):=(by grind);rw[q];refine ae.aN (P:=λh=>∃b a,h=(b,a,())/\a.length=g/\a2 a/\0<=b/\b<=1/\ar a+bc g*b=ar c+ar f) ?_ ?_
 ·refine ae.steps g (λd r=>∃b a,r=(b,(d:Z),a,())/\a.length=d/\a2 a/\0<=b/\b<=1/\ar a+bc d*b=ar (c.take d)+ar (f.take d)) ⟨0,[],bo,bo,a2.nil,aa,aa,by simp[ar]⟩ ?_ ?_
  ·rintro d _ t ⟨b,a,rfl,l,i,j,m,n⟩;have w:=o.getD d;have x:=p.getD d;obtain⟨e,v,A,B,s⟩:∃e,e=b+c.getD d 0+f.getD d 0/\0<=e/\e<18446744073709551616/\e/4294967296<=1:=⟨_,bo,aa,aa,aa⟩;dsimp only;rw[aQ (aJ (aa:(d:Z)<(g:Z)))];refine ae.aN (P:=λh=>h=(e/4294967296,a++[e %4294967296],())) ?_ ?_
   ·refine ae.aN (P:=λh=>h=(b+c.getD d 0,a,())) ?_ ?_
    ·simp only[cW];refine ae.ite (λk=>?_) λk=>?_
     ·grind [gT,bv,iY,eR,a5]
     simp_all [pa,al4,bv]
    rintro _ rfl;refine ae.aN (P:=λh=>h=(e,a,())) ?_ ?_
    ·simp only[cW];refine ae.ite (λk=>?_) λk=>?_
     ·grind [gT,bv,iY,eR,a5]
     simp_all [pa,al4,bv]
    grind [eC,qr,pp,bv]
   rintro _ rfl;dsimp only;refine bv.2 ⟨e/4294967296,a++[e %4294967296],by rw[ba aa],by grind,i.snoc aa aa,aa,s,?_⟩;rw[qp,l,j3,yZ,yZ];grind
  rintro _ ⟨b,a,rfl,l,i,j,m,n⟩;dsimp only;rw[aM (aC (aa:¬((g:Z)<(g:Z))))];grind [bv,ck]
 rintro _ ⟨b,a,rfl,l,i,j,m,n⟩;dsimp only;rw[eC (by grind),nX j aa];refine bv.2 ⟨a++[b],bo,i.snoc j aa,?_,by grind⟩;grind [qp]
theorem Sz (a:Z):eJ .u64 a 63=Y (a/9223372036854775808):=by have:eJ .u64 a 63=Y (a.fdiv 9223372036854775808):=rfl;grind
theorem Sb (o:a2 c) (p:a2 f) (A:c.length<=10000000) (w:f.length<=c.length) (x:ar f<=ar c):ae (Ah (c,f,())) (λg=>∃a,g=(a,())/\a2 a/\ar a=ar c-ar f/\a.length=c.length):=by
 unfold Ah;dsimp only;refine ae.aN (P:=λg=>∃a b,g=(a,())/\a.length=c.length/\a2 a/\0<=b/\b<=1/\ar a-bc c.length*b=ar c-ar f) ?_ ?_
 ·refine ae.steps c.length (λd q=>∃b a,q=(b,(d:Z),a,())/\a.length=d/\a2 a/\0<=b/\b<=1/\ar a-bc d*b=ar (c.take d)-ar (f.take d)) ⟨0,[],bo,bo,a2.nil,aa,aa,by simp[ar]⟩ ?_ ?_
  ·rintro d _ l ⟨b,a,rfl,h,i,j,k,m⟩;have y:=o.get l;have z:=p.getD d;obtain⟨e,v,r,s⟩:∃e,e=c[d]-b-f.getD d 0/\-4294967296<=e/\e<4294967296:=⟨_,bo,aa,aa⟩;dsimp only;rw[aQ (aJ (show(d:Z)<ak c by grind))];refine ae.aN (P:=λg=>g=(-(e/4294967296),a++[e %4294967296],())) ?_ ?_
   ·refine ae.bs (eR l) ?_;refine ae.aN (P:=λg=>g=(e %18446744073709551616,a,())) ?_ ?_
    ·simp_all [a5,pa,bv,B8,eR,iY,ae.ite,cW]
    grind [eC,qr,Sz,bv]
   rintro _ rfl;dsimp only;refine bv.2 ⟨-(e/4294967296),a++[e %4294967296],by rw[ba aa],by grind,i.snoc aa aa,aa,aa,?_⟩;rw[qp,h,j3,jG l,yZ];grind
  rintro _ ⟨b,a,rfl,h,i,j,k,m⟩;dsimp only;rw[aM (aC (show¬((c.length:Z)<ak c) by grind))];refine bv.2 ⟨a,b,bo,h,i,j,k,?_⟩;simp_all [ck,cd]
 rintro _ ⟨a,b,rfl,h,i,j,k,m⟩;have n:=iB i;have t:=hh c.length;rw[h] at n;have u:b=0:=(by grind);grind [bv]
theorem aei (y:a2 f) (q:b<f.length) (z:a2 c) (L:b+c.length<d) (J:d<=100000000) (w:h.length=d) (x:a2 h) (C:iK h (b+c.length)) {p:iJ->Prop} (K:∀g a,a.length=d->a2 a->iK a (b+c.length)->0<=g->g<4294967296->ar a+bc (b+c.length)*g=ar h+bc b*(f[b]*ar c)->p (g,a,())):ae (loop (σ:=pP) (ρ:=iJ) (λ(k,j,m,_)=>
 bif bu (j<ak c) then
 (aj f (b:Z)).bind λu=>
 (aj c j).bind λs=>
 rd m (au ((b:Z)+j)) λt=>
 wr m (au ((b:Z)+j)) (eS (aY (aY (k+aY (aY u*aY s))+aY t))) λI=>
 (eJ bE (aY (aY (k+aY (aY u*aY s))+aY t)) 32).bind λH=>
 Y (.inl (H,aH j,I,())) else
 Y (.inr (k,m,()))) (0,0,h,())) p:=by
 refine ae.steps c.length (λe G=>∃g a,G=(g,(e:Z),a,())/\a.length=d/\a2 a/\iK a (b+c.length)/\0<=g/\g<4294967296/\ar a+bc (b+e)*g=ar h+bc b*(f[b]*ar (c.take e))) ⟨0,h,bo,w,x,C,aa,aa,by simp[ar]⟩ ?_ ?_
 ·rintro e _ l ⟨g,a,rfl,ay,o,r,D,E,F⟩;have A:=y.get q;have B:=z.get l;have N:=o.get (n:=b+e) aa;have M:=JD A B;obtain⟨i,O,P,Q⟩:∃i,i=g+f[b]*c[e]+a[b+e]/\0<=i/\i<18446744073709551616:=⟨_,bo,aa,aa⟩;simp only[aJ (show(e:Z)<ak c by grind),bH,eR l,eR q,aI];have ao:au ((b:Z)+(e:Z))=((b+e:X):Z):=(by grind [cD]);rw[ao,jq aa];have v:aY (aY (g+aY (aY f[b]*aY c[e]))+aY a[b+e])=i:=by
   grind [gT]
  rw[v,qr,mh aa,pp];refine bv.2 ⟨i/4294967296,a.set (b+e) (i %4294967296),by rw[ba aa],by grind,o.set aa aa,r.K0 _ aa,aa,aa,?_⟩;rw[rP aa,(aa:b+(e+1)=(b+e)+1),j3,jG l];grind [wz,al5]
 rintro _ ⟨g,a,rfl,ay,o,r,D,E,F⟩;simp_all [fW,bd,bv,aC,a5,bR,ak]
theorem ad6 (s:a2 f) (t:a2 c) (v:f.length<=10000000) (w:c.length<=10000000):ae (DY (f,c,())) (λg=>∃a,g=(a,())/\a2 a/\ar a=ar f*ar c/\a.length=f.length+c.length):=by
 unfold DY;dsimp only;have r:au (ak f+ak c)=((f.length+c.length:X):Z):=(by grind [cD,a5]);rw[r,iP aa,bM];refine ae.aN (P:=λg=>∃a,g=(a,())/\a.length=f.length+c.length/\a2 a/\ar a=ar f*ar c) ?_ ?_
 ·refine ae.steps f.length (λb u=>∃a,u=((b:Z),a,())/\a.length=f.length+c.length/\a2 a/\iK a (b+c.length)/\ar a=ar (f.take b)*ar c) ⟨_,bo,ac,a2.nk _,iK.nk _ _,by simp[ar,tU]⟩ ?_ ?_
  ·rintro b _ m ⟨a,rfl,ay,o,p,q⟩;dsimp only;rw[aQ (aJ (show(b:Z)<ak f by grind))];refine ae.aN (P:=λg=>∃e d,g=(e,d,())/\d.length=f.length+c.length/\a2 d/\iK d (b+c.length)/\0<=e/\e<4294967296/\ar d+bc (b+c.length)*e=ar a+bc b*(f[b]*ar c)) (aei s m t aa aa ay o p λe d n k h i j l=>⟨e,d,bo,n,k,h,i,j,l⟩) ?_;rintro _ ⟨e,d,rfl,n,k,h,i,j,l⟩;have ao:au ((b:Z)+ak c)=((b+c.length:X):Z):=(by grind [cD,a5]);dsimp only;rw[ao,nX i j,mh aa];refine bv.2 ⟨d.set (b+c.length) e,by rw[ba aa],by grind,k.set i j,?_,?_⟩
   ·rw[(aa:b+1+c.length=b+c.length+1)];exact h.set _
   rw[rP aa,h _ (bd _) aa,jG m,Int.sub_zero,l,q];grind
  rintro _ ⟨a,rfl,ay,o,p,q⟩;dsimp only;rw[aM (aC (show¬((f.length:Z)<ak f) by grind))];grind [bv]
 grind [bv]
section
section
variable {α B:Type}
theorem KE {d c e:bn α} {k:X} (g:k<c.length) (f:a=((d.length+k:X):Z)) (b:α->bw B):rd (d++(c++e)) a b=b c[k]:=by subst f;refine adN aa ?_ b;grind
theorem af8 {b c d:bn α} {k:X} (g:k<c.length) (h:a=((b.length+k:X):Z)) (f:α) (e:bn α->bw B):wr (b++(c++d)) a f e=e (b++(c.set k f++d)):=by subst h;rw[mh (by grind),aez g]
end
theorem afh {A w C v:aj0} {g:Z} (u:a2 v) (x:a2 w) (V:w.length=v.length+1) (O:A.length+w.length<=100000000) (H:0<=g/\g<4294967296):ae (Ai (A++(w++C),v,(A.length:Z),g,())) (λd=>(ar w<g*ar v/\d=(A++(w++C),br,()))\/(∃l,g*ar v<=ar w/\d=(A++(l++C),bp,())/\l.length=w.length/\a2 l/\ar l=ar w-g*ar v)):=by
 unfold Ai;dsimp only;have y:aH (ak v)=((v.length+1:X):Z):=(by grind [ba,a5]);rw[y,iP aa,bM];have R:=gH u;have Q:=gH x;refine ae.aN (P:=λd=>∃c b,d=(c,A++(w++C),b,())/\b.length=v.length+1/\a2 b/\0<=c/\c<=1/\ar b-bc (v.length+1)*c=ar w-g*ar v) ?_ ?_
 ·refine ae.steps (v.length+1) (λa p=>∃c h b,p=(c,h,(a:Z),A++(w++C),b,())/\b.length=v.length+1/\a2 b/\iK b a/\0<=h/\h<4294967296/\(a=v.length+1->h=0)/\0<=c/\c<=1/\ar b-bc a*(c+h)=ar (w.take a)-g*ar (v.take a)) ⟨0,0,bJ (v.length+1) 0,bo,ac,a2.nk _,iK.nk _ _,aa,aa,λ_=>rfl,aa,aa,by simp[ar,tU]⟩ ?_ ?_
  ·rintro a _ I ⟨c,h,b,rfl,m,i,j,q,o,r,D,E,s⟩;have L:=u.getD a;have ad:=x.get (n:=a) aa;have U:=JD H L;obtain⟨f,K,am,an⟩:∃f,f=h+g*v.getD a 0/\0<=f/\f<18446744073709551616:=⟨_,bo,aa,aa⟩;obtain⟨e,S,M,N⟩:∃e,e=w[a]-c-f %4294967296/\-4294967296<=e/\e<4294967296:=⟨_,bo,aa,aa⟩;dsimp only;rw[aQ (aJ (show(a:Z)<=ak v by grind))];refine ae.aN (P:=λd=>d=(-(e/4294967296),f/4294967296,A++(w++C),b.set a (e %4294967296),())) ?_ ?_
   ·refine ae.aN (P:=λd=>d=(f,A++(w++C),b,())) ?_ ?_
    ·rw[cW];refine ae.ite (λB=>?_) λB=>?_
     ·grind [gT,bv,iY,eR,a5]
     grind [a5,pa,bv]
    rintro _ rfl;dsimp only;have ao:au ((a:Z)+(A.length:Z))=((A.length+a:X):Z):=(by grind [cD]);have z:aY (aY (aY w[a]-c)-eZ bE f 4294967295)=e %18446744073709551616:=(by grind [and_low32,B8]);rw[KE (k:=a) aa ao,pp,bM,z,mh aa,Sz,bM,qr];refine bv.2 ?_;grind
   rintro _ rfl;dsimp only;refine bv.2 ⟨-(e/4294967296),f/4294967296,b.set a (e %4294967296),by rw[ba aa],by grind,i.set aa aa,j.set _,aa,aa,?_,aa,aa,?_⟩
   ·grind
   rw[rP aa,j a (bd _) aa,j3,jG (aa:a<w.length),yZ];grind
  rintro _ ⟨c,h,b,rfl,m,i,j,q,o,r,D,E,s⟩;dsimp only;rw[aM (aC (show¬(((v.length+1:X):Z)<=ak v) by grind))];have G:=r bo;subst G;rw[ck aa,ck aa,al4] at s;grind [bv]
 rintro _ ⟨c,b,rfl,m,i,j,q,o⟩;have J:=iB i;have T:=gH i;have K:=hh (v.length+1);rw[m] at J;dsimp only;rw[fq];by_cases t:c=0
 ·rw[aJ t];subst t;rw[al6] at o;refine ae.aN (P:=λd=>d=(A++(b++C),())) ?_ ?_
  ·refine ae.steps (v.length+1) (λa p=>p=((a:Z),A++((b.take a++w.drop a)++C),b,())) rfl ?_ ?_
   ·rintro a _ I rfl;have ao:au ((a:Z)+(A.length:Z))=((A.length+a:X):Z):=(by grind [cD]);dsimp only;rw[aQ (aJ (show(a:Z)<=ak v by grind)),jq aa,af8 (k:=a) (by grind) ao,ba aa];refine bv.2 ?_;show(_,A++(List.set (b.take a++w.drop a) a b[a]++C),b,())=(_,A++((b.take (a+1)++w.drop (a+1))++C),b,());congr 4;have F:b.take (a+1)=b.take a++[b[a]]:=(by simp_all);rw[amH _ _ (by grind),F,aki,alF aa,Nat.sub_self,alO (aa:a<w.length),List.set_cons_zero,akZ];rfl
   rintro _ rfl;dsimp only;rw[aM (aC (show¬(((v.length+1:X):Z)<=ak v) by grind))];grind [ck,anS,bv]
  grind [bv]
 grind [aC,bv]
theorem adO {n:X} (D:a2 c) (co:ar c=a) (id:c.length=n+1) (f9:a<bc (n+1)) (gc:1<=c[n]) (c2:a2 f) (f8:ar f=e) (ci:f.length=d) (hs:d=b+(n+1)) (f6:d<=10000000) (hv:1<=b) (c1:ar (f.drop b)<a) (s:aj0) (ge:s.length=n+1) {J:kM->Prop} (f7:∀l j,l.length=b->a2 l->j.length=d->a2 j->ar j+a*ar l=e->ar j<a->J (j,l,())):ae (loop (σ:=(Z×bg×bg×bt)) (ρ:=kM) (λ(t,E,U,_)=>
 bif bu (t>=0) then
 rd E (au (t+ak s)) λfr=>
 (h4 bE (aY fr) 32).bind λfs=>
 rd E (au (au (t+ak s)-1)) λft=>
 (aj c (au (ak s-1))).bind λfz=>
 (kB bE (gr bE fs (aY ft)) (aY fz)).bind λan=>
 (loop (σ:=(Z×bg×bg×bt)) (ρ:=(Z×bg×bg×bt)) (λ(F,ex,V,_)=>
 (Ai (ex,c,t,F,())).bind λ(R,d9,_)=>
  bif !d9 then
 Y (.inl (aY (F-1),R,V,())) else
 Y (.inr (F,R,V,()))) ((if 4294967295<an then 4294967295 else an),E,U,())).bind λ(a1,fn,d7,_)=>
 wr d7 t (eS a1) λfT=>
 Y (.inl (au (t-1),fn,fT,())) else
 Y (.inr (E,U,()))) (((b:Z)-1),f,bJ b (0:Z),())) J:=by
 have ii:ar c=ar (c.take n)+bc n*c[n]:=(by grind [jG,ck]);have ic:=gH (D.take n);have dl:=iB (D.take n);rw[gK,h6 aa] at dl;have ds:=D.get (n:=n) aa;have G:0<a:=(by have:=alh (hh n) (aa:0<c[n]);omega);refine ae.steps b (λq z=>∃l j,z=(((b:X):Z)-1-q,j,l,())/\l.length=b/\a2 l/\(∀i,i<b-q->(cv:i<l.length)->l[i]=0)/\j.length=d/\a2 j/\ar j+a*ar l=e/\ar (j.drop (b-q))<a) ⟨bJ b 0,f,ac,ac,a2.nk _,ac,ci,c2,by grind [tU],c1⟩ ?_ ?_
 ·rintro q _ hc ⟨l,j,rfl,ay,S,T,eq,B,a3,K⟩;obtain⟨i,cv⟩:∃i,b=i+1+q:=⟨b-1-q,aa⟩;have ao:((b:X):Z)-1-(q:Z)=(i:Z):=aa;rw[(aa:b-q=i+1)] at K;obtain⟨p,a4⟩:∃p,p=j.take i:=⟨_,bo⟩;obtain⟨h,N⟩:∃h,h=(j.drop i).take (n+2):=⟨_,bo⟩;obtain⟨m,bl⟩:∃m,m=j.drop (i+(n+2)):=⟨_,bo⟩;have L:p.length=i:=(by grind);have io:h.length=n+2:=(by rw[N,gK,oY];omega);have dg:j=p++(h++m):=by
   grind [alL,alu]
  have f4:m.length=d-(i+(n+2)):=(by grind);have d6:a2 p:=(by rw[a4];exact B.take i);have u:a2 h:=(by rw[N];exact(B.drop i).take _);have Q:a2 m:=(by rw[bl];exact B.drop _);have gf:ar (j.drop i)=ar h+bc (n+2)*ar m:=(by grind [List.drop_of_length_le,rO]);have gi:ar (j.drop i)=j[i]+4294967296*ar (j.drop (i+1)):=nW aa;have is:=B.get (n:=i) aa;have bx:=gH Q;have f5:0<=bc (n+2)*ar m:=r4 (gB (hh _)) bx;have hr:ar (j.drop i)<4294967296*a:=aa;have d0:=gH u;have ce:ar m=0:=by
   rcases mm 0 (ar m) with o|o
   ·exfalso;have:=mR (aa:1<=ar m) (gB (hh (n+2)));grind [j3]
   omega
  have H:0<=ar h/a:=ali d0 aa;have M:ar h/a<4294967296:=anR G aa;have gl:=al5 (ar h) a;have hw:=amI (ar h) G;have ib:=anT (ar h) (aa:a≠0);have O:=u.get (n:=n+1) aa;have d1:=u.get (n:=n) aa;have i1:au ((i:Z)+ak s)=((p.length+(n+1):X):Z):=(by simp only[a5];rw[cD aa aa];omega);have d2:au (au ((i:Z)+ak s)-1)=((p.length+n:X):Z):=(by rw[i1,cD aa aa];omega);have d3:au (ak s-1)=((n:X):Z):=(by simp only[a5];rw[cD aa aa];omega);obtain⟨ek,el⟩:=afv (x:=h[n+1]) (y:=h[n]) O d1;obtain⟨em,i0⟩:=Rz (x:=4294967296*h[n+1]+h[n]) (y:=c[n]) ⟨aa,aa⟩ aa;have gt:ar h/a<=(4294967296*h[n+1]+h[n])/c[n]:=(by rw[aoZ aa];have f0:ar h=ar (h.take n)+bc n*(4294967296*h[n+1]+h[n]):=(by grind [afQ]);have ap:=iB (u.take n);rw[aki,alF aa] at ap;have f1:bc n*(ar h/a*c[n])<=ar h:=(by have f2:ar h/a*(bc n*c[n])<=ar h/a*a:=ao0 aa H;grind);have av:bc n*(ar h/a*c[n])<bc n*(4294967296*h[n+1]+h[n]+1):=(by grind);have:=anU av (akB (hh n));omega);dsimp only;rw[ao,aQ (aJ (aa:(i:Z)>=0))]
  conv=>arg 1;rw[dg]
  rw[KE (k:=n+1) aa i1];refine ae.bs (by rw[gT O.1 aa];exact ek) ?_;rw[KE (k:=n) aa d2];refine ae.bs (by rw[d3];exact eR aa) ?_;refine ae.bs (by rw[el,gT ds.1 aa];exact em) ?_;refine ae.aN (P:=λd8=>∃r,d8=(ar h/a,p++(r++m),l,())/\r.length=n+2/\a2 r/\ar r=ar h %a) ?_ ?_
  ·have go:0<=(4294967296*h[n+1]+h[n])/c[n]:=qx aa aa;refine aky (λz=>∃o,z=(o,p++(h++m),l,())/\ar h/a<=o/\o<4294967296) (λz=>z.1.toNat) ⟨_,bo,aa,aa⟩ ?_;rintro _ ⟨o,rfl,f3,a0⟩;have ad:=afh (A:=p) (w:=h) (C:=m) (v:=c) (g:=o) D u aa aa ⟨aa,a0⟩;rw[L] at ad;refine ae.aN ad ?_;rintro _ (⟨I,rfl⟩|⟨r,I,rfl,ix,d4,d5⟩)
   ·have gs:ar h/a<o:=by
     grind
    refine bv.2 ⟨⟨o-1,by rw[gT aa aa],aa,aa⟩,?_⟩;show(aY (o-1)).toNat<o.toNat;rw[gT aa aa];omega
   rw[co] at I d5;have hi:o<=ar h/a:=(aoZ G).2 I;have cs:o=ar h/a:=aa;refine bv.2 ⟨r,by rw[cs],aa,d4,?_⟩;grind
  rintro _ ⟨r,rfl,i2,fp,am⟩;dsimp only;rw[nX H M,mh aa];refine bv.2 ⟨l.set i (ar h/a),p++(r++m),?_,by grind,S.set H M,?_,by simp;omega,a2.append.2 ⟨d6,a2.append.2 ⟨fp,Q⟩⟩,?_,?_⟩
  ·rw[cD aa aa];grind
  ·grind [amE]
  ·rw[rP aa,T i aa aa,rO,rO,L,am];grind [Wg,rO]
  rw[(aa:b-(q+1)=i),wH aa,uf aa,jh,rO,ce,am];omega
 rintro _ ⟨l,j,rfl,ay,S,T,eq,B,a3,K⟩;have ao:¬(((b:X):Z)-1-(b:Z)>=0):=aa;simp_all [bv,ur,mT,aC,bR]
end
theorem Zx {n:X} (f:a2 c) (j:fx c) (t:c.length=n+1):∃d:X,d<=31/\z6 (c[n],())=Y ((d:Z),())/\ar c*2^d<bc (n+1)/\2147483648*bc n<=ar c*2^d:=by
 have i:=f.get (n:=n) aa;have m:c[n]≠0:=j _ (by grind);have o:ar c=ar (c.take n)+bc n*c[n]:=(by grind [jG,ck]);have p:=gH (f.take n);have h:=iB (f.take n);rw[gK,h6 aa] at h;generalize c[n]=u at*;obtain⟨a,rfl⟩:=fZ i.1;have g:0<a:=aa;have r:aS a<=32:=fH.2 aa;have q:=qQ g;obtain⟨k,l⟩:=zE g;obtain⟨b,s⟩:∃b,aS a=b+1:=⟨aS a-1,aa⟩;refine⟨32-aS a,aa,?_,?_,?_⟩
 ·unfold z6;refine af (Pl (n:=a) aa) ?_;grind [cD]
 ·have ao:ar c<bc n*2^aS a:=by
   have:bc n*((a:Z)+1)<=bc n*2^aS a:=mR (by grind) (gB (hh _));grind
  have e:ar c*2^(32-aS a)<bc n*2^aS a*2^(32-aS a):=zd ao (kY _);rw[lC,<-mn,(aa:aS a+(32-aS a)=32)] at e;grind [alI,j3]
 have ao:bc n*2^b<=ar c:=(by have:bc n*2^b<=bc n*(a:Z):=mR (by grind) (gB (hh _));omega);have e:bc n*2^b*2^(32-aS a)<=ar c*2^(32-aS a):=anQ ao (gB (kY _));rw[lC,<-mn,(aa:b+(32-aS a)=31)] at e;omega
theorem afg (a:a2 c) (e:b<=c.length) (f:ar c<bc b):ar (c.take b)=ar c:=by
 have g:=qq c b e;have h:=gH (a.drop b);have i:=gH (a.take b);rcases mm 0 (ar (c.drop b)) with d|d
 ·exfalso;have:=mR (aa:1<=ar (c.drop b)) (gB (hh b));omega
 grind
theorem adP (l:a2 f) (m:a2 c) (I:fx f) (w:fx c) (dg:f.length<=1000000) (dl:c.length<=1000000) (ci:c≠[]):DX (f,c,())=Y (e7 (ar f/ar c).toNat,e7 (ar f %ar c).toNat,()):=by
 unfold DX;refine bN.1 ?_;have C:=gH l;have O:0<ar c:=(by have:=gH m;grind [fx.zero]);refine ae.bs (RK l m I w aa aa) ?_;dsimp only;rw[cW];refine ae.ite (λs=>?_) λs=>?_
 ·have o:ar f<ar c:=M7.1 s;refine bv.2 ?_;rw[qw C o,ua C o];show(([]:aj0),f,())=(e7 0,e7 (ar f).toNat,());rw[N0,<-fx.eq l I]
 have co:ar c<=ar f:=Int.not_lt.1 (mt M7.2 s);obtain⟨b,D⟩:∃b,c.length=b+1:=(by simp_all [amF]);have ao:au (ak c-1)=((b:X):Z):=(by grind [cD,a5]);obtain⟨d,av,a0,a1,d4⟩:=Zx m w D;have cs:b+1<=f.length:=by
  rcases cR f.length (b+1) with j|j
  ·have:=rQ l m w aa;omega
  omega
 have E:=kY d;refine ae.bs (y:=c[b]) (by grind [eR]) (ae.bs a0 ?_);refine ae.aN (KN l aa (n:=d) aa) ?_;rintro _ ⟨p,rfl,H,G,F⟩;refine ae.aN (KN m aa (n:=d) aa) ?_;rintro _ ⟨K,rfl,ap,c2,am⟩;rw[(aa:d/32=0),Nat.zero_add] at F am;have N:ak c=((b+1:X):Z):=(by grind);dsimp only;refine ae.bs (y:=(0,b+1)) ?_ ?_
 ·rw[N,aI,yx,aI,rv ⟨c5 _,aa⟩,aI,Rq aa];rfl
 obtain⟨h,V⟩:∃h,h=(K.take (b+1)).drop 0:=⟨_,bo⟩;have ad:h=K.take (b+1):=(by grind);have Fe:a2 h:=(by rw[ad];exact ap.take _);have S:ar h=ar c*2^d:=(by grind [afg]);have an:h.length=b+1:=(by grind);have U:1<=h[b]:=by
  have u:ar h=ar (h.take b)+bc b*h[b]:=(by grind [jG,ck]);have k:=iB (Fe.take b);rw[gK,h6 aa] at k;have cv:=hh b;rcases mm h[b] 1 with j|j
  ·exfalso;have:h[b]=0:=(by have:=Fe.get (n:=b) aa;omega);grind
  omega
 dsimp only;rw[<-V];refine ae.bs (y:=(h,p,())) ?_ ?_
 ·grind
 obtain⟨g,T⟩:∃g,f.length+1=g+(b+1):=⟨f.length+1-(b+1),aa⟩;have M:au (ak f-ak c)=(g:Z)-1:=(by grind [cD,a5]);have a3:aH (au (ak f-ak c))=((g:X):Z):=(by grind [cq]);dsimp only;refine ae.bs (y:=g) (by grind [iP]) ?_;have o:ar (p.drop g)<ar c*2^d:=(by have t:=qq p g aa;have x:=gH (H.take g);rw[G] at t;have u:ar f*2^d<bc f.length*2^d:=aoT (iB l) E;have z:bc f.length=bc g*bc b:=(by grind [wz]);have k:bc g*ar (p.drop g)<bc g*(bc b*2^d):=(by grind [Int.mul_assoc]);have v:=anU k (akB (hh g));have bl:bc b*2^d<=bc b*2147483648:=ao0 (Bs av) (akB (hh _));omega);rw[M];refine ae.aN (P:=λL=>∃e i,L=(i,e,())/\e.length=g/\a2 e/\i.length=f.length+1/\a2 i/\ar i+ar c*2^d*ar e=ar f*2^d/\ar i<ar c*2^d) (adO Fe S an a1 U H G F T aa aa o c D λe i t x u z k v=>⟨e,i,bo,t,x,u,z,k,v⟩) ?_;rintro _ ⟨e,i,rfl,ay,d3,d5,J,k,v⟩;have c1:=gH J;have bx:ar i=2^d*(ar f-ar c*ar e):=(by grind);have Q:0<=ar f-ar c*ar e:=by
  rcases mm (ar f-ar c*ar e) 0 with j|j
  ·have:=Int.mul_neg_of_pos_of_neg E j;omega
  omega
 have R:ar f-ar c*ar e<ar c:=(by simp_all [anU,akB,alI,ar]);have ce:ar i/2^d=ar f-ar c*ar e:=(by grind [Int.mul_ediv_cancel_left]);obtain⟨a4,f2⟩:=Kw (A:=ar f) (B:=ar c) (q:=ar e) (r:=ar f-ar c*ar e) O aa Q R;dsimp only;refine ae.bs (Ga J aa) ?_;dsimp only;refine ae.aN (KO (a:=kD i) (n:=d) (Lj i) (by grind [SX]) aa) ?_;rintro _ ⟨ds,rfl,d0,d1,d2⟩;grind [Lk,ae.bs,Ga,bv,SX,kD]
theorem By {x y:Z} (n:aS x.natAbs<=3000000) (o:aS y.natAbs<=3000000):pY (aV x,aV y,())=Y (aV (x+y),()):=by
 obtain⟨a,f,r⟩:=h0 n;obtain⟨b,g,s⟩:=h0 o;unfold pY;dsimp only;refine bN.1 ?_;refine ae.bs (tL a f aa) (ae.bs (tL b g aa) ?_);dsimp only;have u:=jl x;have v:=jl y;have p:(aV x).1=bu (x<0):=rfl;have q:(aV y).1=bu (y<0):=rfl;rw[p,q];by_cases m:(bu (x<0)==bu (y<0))=bp
 ·rw[aQ m];refine ae.aN (adz a b aa aa) ?_;rintro _ ⟨k,rfl,d,e,l⟩;refine ae.bs (tJ d (by grind) e) (bv.2 ?_);grind
 rw[aM (by grind)];have t:¬(x<0↔y<0):=(by grind);refine ae.bs (RK a b f g aa aa) ?_;dsimp only;rw[cW];refine ae.ite (λh=>?_) λh=>?_
 ·have j:=CV.1 h;have i:(aV y).2.1.length<=(aV x).2.1.length:=by
   rcases cR (aV x).2.1.length (aV y).2.1.length with c|c
   ·have:=rQ a b g c;omega
   omega
  refine ae.aN (Sb a b aa i j) ?_;rintro _ ⟨k,rfl,d,e,l⟩;refine ae.bs (tJ d (by grind) e) (bv.2 ?_);grind
 have j:ar (aV x).2.1<ar (aV y).2.1:=Int.not_le.1 (mt CV.2 h);have i:(aV x).2.1.length<=(aV y).2.1.length:=by
  rcases cR (aV y).2.1.length (aV x).2.1.length with c|c
  ·have:=rQ b a f c;omega
  omega
 refine ae.aN (Sb b a aa i (gB j)) ?_;rintro _ ⟨k,rfl,d,e,l⟩;refine ae.bs (tJ d (by grind) e) (bv.2 ?_);grind
theorem Sa (b:aS a.natAbs<=3000000) (c:aS e.natAbs<=3000000):xI (aV a,aV e,())=Y (aV (a-e),()):=by simp_all [af,By,al7,Int.sub_eq_add_neg,RZ,xI]
theorem ad5 (i:aS a.natAbs<=3000000) (j:aS e.natAbs<=3000000):DV (aV a,aV e,())=Y (aV (a*e),()):=by
 obtain⟨b,d,m⟩:=h0 i;obtain⟨c,f,n⟩:=h0 j;unfold DV;dsimp only;refine bN.1 ?_;refine ae.bs (tL b d aa) (ae.bs (tL c f aa) ?_);dsimp only;refine ae.aN (ad6 b c aa aa) ?_;rintro _ ⟨o,rfl,k,l,p⟩;refine ae.bs (tJ k (by grind) l) (bv.2 ?_);dsimp only;rw[jl,jl];congr 2;show(if(!(bu (a<0)==bu (e<0)))=bp then _ else _)=_;rcases alH a 0 with g|g<;>rcases alH e 0 with h|h
 ·grind
 ·grind
 ·grind
 grind
theorem KJ {n:Z} (b:-9223372036854775808<=n) (c:n<=9223372036854775807):sJ (n,())=Y (aV n,()):=by
 unfold sJ;dsimp only;obtain⟨a,d,e,f⟩:∃a:Z,a=n.natAbs/\0<=a/\a<=9223372036854775808:=⟨_,bo,aa,aa⟩;refine af (y:=(a,(br,([],())),())) ?_ ?_
 ·rw[cW];grind [gT,cq,cD]
 dsimp only;rw[pp,bM,qr a,nX (x:=a/4294967296) aa aa];refine af (BJ (a2.cons.2 ⟨⟨aa,aa⟩,a2.cons.2 ⟨⟨aa,aa⟩,a2.nil⟩⟩) ac) ?_;grind [ar,hg]
theorem KM {z:Z} {n:X} (a:aS z.natAbs<=3000000) (g:n<=10000000):m5 (aV z,(n:Z),())=Y (aV (z*2^n),()):=by obtain⟨c,e,f⟩:=h0 a;unfold m5;dsimp only;refine bN.1 ?_;refine ae.bs (yK a) ?_;dsimp only;rw[aQ (aJ (aa:(n:Z)>=0))];refine ae.aN (KN c aa (n:=n) aa) ?_;rintro _ ⟨h,rfl,d,b,i⟩;rw[jl] at b;refine ae.bs (tJ d (by grind) b) (bv.2 ?_);dsimp only;congr 2;show(if bu (z<0)=bp then _ else _)=_;grind
theorem ael (j:aS a.natAbs<=2900000) (q:b<=10000000) (r:0<b):m5 (aV a,-(b:Z),())=Y (aV (a/2^b),()):=by
 obtain⟨f,o,p⟩:=h0 (z:=a) aa;have i:=kY b;unfold m5;dsimp only;refine bN.1 ?_;refine ae.bs (yK aa) ?_;dsimp only;have ao:au (0- -(b:Z))=(b:Z):=(by grind [cD]);rw[aM (aC (aa:¬(-(b:Z)>=0))),ao];refine ae.aN (KO f aa (n:=b) aa) ?_;rintro _ ⟨u,rfl,k,e,v⟩;rw[jl] at e|-;dsimp only;refine ae.bs (tJ k aa e) ?_;dsimp only;have l:(aV a).1=bu (a<0):=rfl;rw[l];have s:0<=(a.natAbs:Z)/2^b:=ali aa aa;have t:(a.natAbs:Z)/2^b<=a.natAbs:=amJ _ aa;have c:=P3 (m:=a.natAbs) i aa;refine ae.bs (y:=((br,([],())),aV (a/2^b),())) ?_ (bv.2 bo);by_cases g:a<0
 ·rw[aJ g];rw[(aa:-(a.natAbs:Z)=a)] at c;by_cases d:(a.natAbs:Z) %2^b=0
  ·grind
  rw[aJ (show(a.natAbs:Z) %2^b≠0 from d)];refine af bo ?_;dsimp only[bH];rw[cw d] at c;refine af (KJ ab ab) ?_;dsimp only;have h:aS (-((a.natAbs:Z)/2^b)).natAbs<=3000000:=(by rw[fH];have:=fH.1 j;omega);rw[cc bo];refine af (Sa h ab) ?_;grind
 grind
theorem adF (c:aS a.natAbs<=2900000) (d:aS e.natAbs<=2900000):DS (aV a,aV e,())=Y (fI a e,()):=by unfold DS;refine af (Sa aa aa) ?_;have b:aS (a-e).natAbs<=3000000:=(by have f:=Vb 2900000 c d;have g:=l1 (aa:(a-e).natAbs<=a.natAbs+e.natAbs);omega);refine af (kZ b) ?_;grind [gS,fI]
def Hj (a:aS d<=b) (c:aS m<=b):aS (d+m)<=b+1:=by rw[fH,alf];have:=fH.1 a;have:=fH.1 c;omega
def adQ {x y:Z} (o:aS x.natAbs<=3000000) (j:aS y.natAbs<=3000000) (F:0<=x) (c:y≠0):DT (aV x,aV y,())=Y (aV (x/y),aV (x %y),()):=by
 obtain⟨m,p,q⟩:=h0 o;obtain⟨n,r,s⟩:=h0 j;have w:(aV y).2.1≠[]:=λt=>c (AF.1 t);unfold DT;refine af (yK o) (af (yK j) ?_);dsimp only;refine af (adP m n p r aa aa w) ?_;rw[jl,jl];have A:(aV x).1=br:=aC aa;have C:(aV y).1=bu (y<0):=rfl;rw[A,C];have f:0<=(x.natAbs:Z)/(y.natAbs:Z):=ali aa aa;have g:(x.natAbs:Z)/(y.natAbs:Z)<=x.natAbs:=amJ _ aa;have h:0<=(x.natAbs:Z) %(y.natAbs:Z):=anT _ aa;have i:(x.natAbs:Z) %(y.natAbs:Z)<(y.natAbs:Z):=amI _ aa;have d:∀a:Z,a<=x.natAbs->(e7 a.toNat).length<=100000:=λa k=>Lu (l:=(aV x).2.1) m q (by rw[jl];exact k);have e:∀a:Z,a<=y.natAbs->(e7 a.toNat).length<=100000:=λa k=>Lu (l:=(aV y).2.1) n s (by rw[jl];exact k);dsimp only;refine af (tJ (q9 _) (by have:=d _ g;omega) (Ez f)) (af (tJ (q9 _) (by have:=e _ (akB i);omega) (Ez h)) ?_);dsimp only;rw[cw (ac:¬(br=bp))];have ao:(x.natAbs:Z)=x:=aa;rw[ao] at*;have u:x %(y.natAbs:Z)=x %y:=by
  rcases mm y 0 with b|b
  ·rw[(aa:(y.natAbs:Z)=-y),Int.emod_neg]
  rw[(aa:(y.natAbs:Z)=y)]
 rw[u] at*;have D:0<=x %y:=zb _ c;have E:x %y<y.natAbs:=Int.emod_lt x c;have z:aS (x %y).natAbs<=3000000:=(by clear f g h i d e;generalize x %y=B at*;exact di (l1 aa) j);have v:(if(!(br==bu (y<0)))=bp then-(x/(y.natAbs:Z)) else x/(y.natAbs:Z))=x/y:=by
  rcases mm y 0 with b|b
  ·rw[aJ b,(aa:(y.natAbs:Z)=-y),Int.ediv_neg];simp
  rw[aC (aa:¬y<0),(aa:(y.natAbs:Z)=y)];simp
 rw[v];refine af (y:=((br,([],())),(br,([],())),aV (x/y),aV (x %y),())) ?_ bo;refine af (kZ z) ?_;dsimp only;rw[aM (aC ?_)];clear f g h i d e;generalize x %y=B at*;unfold gS;split;omega;split<;>omega
def RW {z:Z} {n:X} (c:aS z.natAbs<=3000000) (e:n<=10000000):Ae (aV z,(n:Z),())=Y (bu ((z.natAbs:Z) %2^n≠0),()):=by obtain⟨a,b,d⟩:=h0 c;unfold Ae;dsimp only;refine bN.1 ?_;refine ae.bs (tL a b aa) ?_;dsimp only;refine ae.aN (KO a aa (n:=n) aa) ?_;rintro _ ⟨f,rfl,g,h,i⟩;rw[jl];exact bv.2 bo
def ad3 {z:Z} (p:0<=z) (d:z<9223372036854775808):DU (aV z,())=Y (z,bp,()):=by
 have f:aS z.natAbs<=64:=fH.2 aa;obtain⟨b,n,o⟩:=h0 (z:=z) aa;have q:(aV z).2.1.length<=2:=AG aa;unfold DU;dsimp only;refine bN.1 ?_;refine ae.bs (yK aa) ?_;dsimp only;rw[aM (aC (show¬(ak (aV z).2.1>2) by simp only[a5];omega))];refine ae.aN (P:=λl=>l=(z,aV z,())) ?_ ?_
 ·have k:=jl z;refine ae.steps (aV z).2.1.length (λa m=>m=(ar ((aV z).2.1.take a),(a:Z),aV z,())) rfl ?_ ?_
  ·rintro a _ c rfl;have h:=b.get c;dsimp only;rw[aQ (aJ (show(a:Z)<ak (aV z).2.1 by simp only[a5];omega)),eR c,bM];have d:=gH (b.take a);have e:=iB (b.take a);rw[aki,alF aa,qu] at e;have ao:au (32*(a:Z))=((32*a:X):Z):=(by rw[cD aa aa];simp);have f:(2:Z)^(32*a)<=4294967296:=by
    rcases(aa:a=0\/a=1) with rfl|rfl<;>decide
   have j:=kY (32*a);have r:(aV z).2.1[a]*2^(32*a)<4294967296*4294967296:=(by have:=mR f h.1;omega);have g:0<=(aV z).2.1[a]*2^(32*a):=r4 h.1 (gB j);rw[ao,gT (x:=(aV z).2.1[a]) aa aa,nV aa aa,aI,fF,ua g aa,nb (32*a) d e g aa aa (amG _ _),ba aa];refine bv.2 ?_;show(_,_,aV z,())=(_,_,aV z,());rw[jG c,qu,qy (2^(32*a))]
  rintro _ rfl;dsimp only;rw[aM (aC (show¬(((aV z).2.1.length:Z)<ak (aV z).2.1) by simp only[a5];omega)),ck (cd _),k];refine bv.2 ?_;show(((z.natAbs:X):Z),aV z,())=_;rw[(aa:((z.natAbs:X):Z)=z)]
 rintro _ rfl;have i:(aV z).1=br:=aC aa;dsimp only;rw[i,bR,aM (aC (aa:¬(z>9223372036854775807))),cD aa aa];exact bv.2 bo
theorem Sx (h:aS e.natAbs<=1900000) (f:-1048576<=a) (g:a<=1048576):qU (aV e,a,())=Y (aV (qk e a),0,()):=by
 rcases mm a 0 with d|d
 ·obtain⟨b,c⟩:∃b:X,a=-(b:Z):=⟨(-a).toNat,aa⟩;subst c;grind [aeF,yS]
 obtain⟨b,c⟩:∃b:X,a=(b:Z):=⟨a.toNat,aa⟩;grind [aeG,nU]
theorem BK (h:aS e.natAbs<=2900000) (f:-10000000<=a) (g:a<=10000000):m5 (aV e,a,())=Y (aV (qk e a),()):=by
 rcases mm a 0 with d|d
 ·obtain⟨b,c⟩:∃b:X,a=-(b:Z):=⟨(-a).toNat,aa⟩;subst c;grind [ael,yS]
 obtain⟨b,c⟩:∃b:X,a=(b:Z):=⟨a.toNat,aa⟩;grind [KM,nU]
def c4 (a:Z):Z:=if a=0 then 0 else hA a
theorem Ft:cY 0=0:=rfl
theorem gX (a:Z):az (Y a)=(br,aV (cY a),c4 a,()):=by
 by_cases b:a=0
 ·subst b;rfl
 rw[NX b,c4,aw b]
theorem km (b:fv a):aS (cY a).natAbs<=131072:=by
 by_cases c:a=0
 ·subst c;exact b
 grind [ZD,fv]
theorem kC (b:fv a):-65536<=c4 a/\c4 a<=65536:=by grind [wm,fv,hA,c4]
theorem Fk (c:fv a):hq (cY a) (c4 a)=Y a:=by
 by_cases b:a=0
 ·subst b;rfl
 rw[c4,aw b,Y9 c]
theorem ZE (c:a=0\/e<=hA a) (g:-65536<=e):cY a*2^(c4 a-e).toNat*2^(e+65536).toNat=a:=by
 by_cases b:a=0
 ·grind [Ft]
 have d:=tA a;have f:=c.resolve_left b;rw[c4,aw b,lC,<-mn];grind [hA,cZ]
theorem NW (z:a≠0) (v:¬(e+cZ a.natAbs< -65536\/65536<e+aS a.natAbs)):az (hq a e)=(br,aV (a/2^cZ a.natAbs),e+cZ a.natAbs,())/\(hq a e).isSome=bp:=by
 obtain⟨c,s⟩:∃c,c=qk a (e+65536):=⟨_,bo⟩;have r:hq a e=Y c:=(by simp_all [aw,hq]);rw[r];refine⟨?_,bo⟩;obtain⟨h,y⟩:=tS (n:=a.natAbs) aa;have o:=(vF (n:=a.natAbs) (k:=cZ a.natAbs) aa).1 (bd _);have q:a/2^cZ a.natAbs*2^cZ a.natAbs=a:=If o;have A:(a/2^cZ a.natAbs).natAbs=2*h+1:=(by grind [anN,alG,A8]);generalize x:cZ a.natAbs=d at*;generalize w:a/2^d=j at*;have t:c=j*2^(e+d+65536).toNat:=by
  rw[s,<-q];rcases aoP 0 (e+65536) with l|l
  ·obtain⟨b,g⟩:∃b:X,e+65536=b:=⟨(e+65536).toNat,aa⟩;rw[g,nU,lC,<-mn];grind
  obtain⟨b,g⟩:∃b:X,e+65536=-(b:Z):=⟨(-(e+65536)).toNat,aa⟩;obtain⟨i,p⟩:∃i:X,d=i+b:=⟨d-b,aa⟩;rw[g,yS,p,mn,<-lC,anV _ (by have:=kY b;omega)];grind
 obtain⟨f,m⟩:∃f:X,e+d+65536=f:=⟨(e+d+65536).toNat,aa⟩;rw[m,fF] at t;have u:c.natAbs=(2*h+1)*2^f:=(by grind [lK]);have B:cZ c.natAbs=f:=yX u;have C:c≠0:=(by grind);grind [anV,kY,NX,hA,cY]
theorem RV {m:Z} {n:X} (e:aS m.natAbs<=1900000) (f:n<=1048576):zP (aV m,(n:Z),())=Y (aV (m/2^n),()):=by
 unfold zP;dsimp only;refine bN.1 ?_;refine ae.aN (P:=λc=>c=((n:Z),aV m,(br,([],())),())) ?_ ?_
 ·refine ae.steps 0 (λb a=>a=((n:Z),aV m,(br,([],())),())) rfl (λb a d=>by omega) ?_;rintro _ rfl;dsimp only;rw[aM (aC (aa:¬((n:Z)>1048576)))];grind [bv]
 grind [cD,anW,ae.bs,Sx,bv,yS]
theorem E9 {m k:Z} (b:aS m.natAbs<=1900000) (c:0<=k) (a:k<=1048576):oq (aV m,k,())=Y (aV (m*2^k.toNat),()):=by unfold oq;refine af (Sx b aa a) ?_;grind [nU,cz]
theorem P7 (q:aS a.natAbs<=900000) (o:-1000000000000<=e) (p:e<=1000000000000):ot ((br,aV a,e,()),())=Y (az (hq a e),(hq a e).isSome,()):=by
 obtain⟨g,l,m⟩:=h0 (z:=a) aa;unfold ot;dsimp only;rw[bR];have f:=Zy (b:=aV a) g aa;rw[oS] at f;refine af f ?_;refine af (wh (li aa)) ?_;dsimp only;rw[gh,cW];split
 ·rename_i c;have:a=0:=by
   grind [gS]
  subst this;rfl
 rename_i c;have d:a≠0:=(by intro e;subst e;exact c bo);have r:=wm (n:=a.natAbs) aa;refine af (S8 (li aa) d) ?_;dsimp only;by_cases j:e+cZ a.natAbs< -65536\/65536<e+aS a.natAbs
 ·have k:hq a e=bq:=(by simp_all [aw,ax,hq]);rw[k];refine af (y:=.inr (az bq,br,())) ?_ bo;refine af (y:=(bp,(br,((br,([],())),((0:Z),()))),aV a,())) ?_ bo;refine af (CP (li aa)) ?_;grind [aC,aJ,cD]
 obtain⟨h,i⟩:=NW d j;rw[h,i];refine af (y:=.inl ((br,((br,([],())),((0:Z),()))),aV a,())) ?_ ?_
 ·refine af (y:=(br,(br,((br,([],())),((0:Z),()))),aV a,())) ?_ bo;refine af (CP (li aa)) ?_;grind [aC,cD]
 refine af (RV aa aa) ?_;grind [cD]
theorem vR (b:c8 j):ot (az j,())=Y (az j,j.isSome,()):=by
 cases j with
 |none=>rfl
 |some c=>
  have a:=b c bo;have d:=km a;have e:=kC a;grind [gX,P7,Fk]
def A2 (d:aS e.natAbs<=900000) (b:-1000000000000<=a) (c:a<=1000000000000):sv (aV e,a,())=Y (az (hq e a),()):=by unfold sv;exact af (P7 d b c) rfl
def NJ (a:c8 j):uT (az j,())=Y (az j,()):=by unfold uT;exact af (vR a) rfl
def kn (a:ajU):Z:=gS (a.getD 0)
theorem Sv (a:Z):gS (cY a)=gS a:=by
 unfold gS;have:=Fs (v:=a);by_cases b:a=0
 ·subst b;rfl
 simp_all [ki,aw]
def xX (a:c8 j):oo (az j,())=Y (kn j,()):=by
 unfold oo;refine af (vR a) ?_;cases j with
 |none=>exact af (wh (z:=0) (li ab)) rfl
 |some b=>
  have c:=km (a b bo);rw[gX];refine af (wh (li aa)) ?_;show Y (gS (cY b),())=_;rw[Sv];rfl
theorem Ll {a b:ajU} (c:c8 a) (d:c8 b):xn (az a,az b,())=Y (az a,az b,a.isSome&&b.isSome,()):=by unfold xn;refine af (vR c) (af (vR d) ?_);grind
def fD (c d:ajU):ajU:=c.bind λa=>d.bind λb=>hq (cY a*cY b) (c4 a+c4 b)
def gO (a b:ajU):ajU:=a.bind λc=>b.bind λd=>om (c+d)
def jo (a:ajU):ajU:=a.map λb=>-b
def nz (a:ajU):ajU:=a.map λb=>(b.natAbs:Z)
def na (b c:ajU):c8 (fD b c):=by
 intro d a;unfold fD at a;cases b with
 |none=>cases a
 |some e=>cases c with
  |none=>cases a
  |some f=>exact Jz _ _ d a
theorem og (b c:ajU):c8 (gO b c):=by
 intro d a;unfold gO at a;cases b with
 |none=>cases a
 |some e=>cases c with
  |none=>cases a
  |some f=>exact M0 _ d a
theorem P2 (b:c8 j):c8 (jo j):=by
 intro d a;cases j with
 |none=>cases a
 |some c=>cases a;have:=b c bo;grind [al7,fv]
theorem UD (b:c8 j):c8 (nz j):=by
 intro d a;cases j with
 |none=>cases a
 |some c=>cases a;have:=b c bo;grind [amK,fv]
def q8 (a:c8 j) (b:c8 l):la (az j,az l,())=Y (az (fD j l),()):=by
 unfold la;refine af (Ll a b) ?_;cases j with
 |none=>rfl
 |some c=>
  cases l with
  |none=>rfl
  |some d=>
   have e:=km (a c bo);have f:=km (b d bo);have g:=kC (a c bo);have h:=kC (b d bo);rw[gX,gX];refine af (Zf aa aa) ?_;dsimp only;rw[cD aa aa];refine af (A2 ?_ aa aa) rfl;rw[ao1];have:=xc e f;omega
theorem JP (a:Z):cY (-a)=-cY a:=by have b:=tA a;grind [Int.eq_of_mul_eq_mul_right,Int.neg_mul,kY,al7,tA,cY,cZ]
theorem Ir (a:Z):c4 (-a)=c4 a:=by simp_all [aw,al7,c4,hA]
theorem Qa (a:Z):cY (a.natAbs:Z)=((cY a).natAbs:Z):=by
 have c:=Fs (v:=a);rcases mm a 0 with b|b
 ·grind [JP]
 grind
theorem N4 (a:Z):c4 (a.natAbs:Z)=c4 a:=by grind [Ir,alH]
def Wh (b:c8 j):C2 (az j,())=Y (az (jo j),()):=by
 unfold C2;refine af (vR b) ?_;cases j with
 |none=>rfl
 |some a=>
  have c:=km (b a bo);rw[gX];refine af (af (P4 (li aa)) rfl) ?_;show Y ((br,aV (-cY a),c4 a,()),())=Y (az (Y (-a)),());rw[gX,JP,Ir]
def V1 (b:c8 j):C1 (az j,())=Y (az (nz j),()):=by
 unfold C1;refine af (vR b) ?_;cases j with
 |none=>rfl
 |some a=>
  have c:=km (b a bo);rw[gX];refine af (af (G1 (li aa)) rfl) ?_;show Y ((br,aV ((cY a).natAbs:Z),c4 a,()),())=Y (az (Y (a.natAbs:Z)),());rw[gX,Qa,N4]
def iA (a b:Z):Z:=cY a*2^(c4 a-b).toNat
theorem tT {v e:Z} (a:v=0\/e<=hA v) (b:-65536<=e):iA v e*2^(e+65536).toNat=v:=ZE a b
def qo (b:a=0\/e<=hA a) (f:-65536<=e) (g:fv a):aS (iA a e).natAbs<=131072:=by
 have c:=tT b f;have d:(iA a e).natAbs<=a.natAbs:=by
  conv=>rhs;rw[<-c,lK]
  exact ao2 _ (jN _)
 exact di (l1 d) g
def Jg (c:a=0\/e<=hA a) (h:-65536<=e) (i:e<=65536) (b:fv a) (d:e<=c4 a):oq (aV (cY a),c4 a-e,())=Y (aV (iA a e),()):=by have f:=km b;have g:=kC b;exact E9 aa aa aa
theorem PK {b:Z} (c:-65536<=a) (d:e=0\/a<=hA e) (f:b=0\/a<=hA b):hq (iA e a+iA b a) a=om (e+b):=by grind [al8,tT,A6]
theorem jW (b:e<=c4 a):a=0\/e<=hA a:=by
 by_cases c:a=0
 ·omega
 simp_all [aw,c4]
def Md (f:fv a) (g:fv e):∃b,b<=c4 a/\b<=c4 e/\-65536<=b/\b<=65536/\zO (az (Y a),az (Y e),())=Y (aV (iA a b),aV (iA e b),b,()):=by have h:=kC f;have i:=kC g;refine⟨if c4 e<c4 a then c4 e else c4 a,aa,aa,aa,aa,?_⟩;unfold zO;rw[gX,gX];dsimp only;generalize j:(if c4 e<c4 a then c4 e else c4 a)=b;have ao:b<=c4 a:=aa;have c:b<=c4 e:=aa;have d:-65536<=b:=aa;rw[cD (x:=c4 a-b) aa aa,cD (x:=c4 e-b) aa aa];exact af (Jg (jW ao) d aa f ao) (af (Jg (jW c) d aa g c) rfl)
def V2 (e:c8 j) (b:c8 l):zM (az j,az l,())=Y (az (gO j l),()):=by
 unfold zM;refine af (Ll e b) ?_;cases j with
 |none=>rfl
 |some h=>
  cases l with
  |none=>rfl
  |some i=>
   have f:=e h bo;have g:=b i bo;obtain⟨c,ao,d,a,o,n⟩:=Md f g;have k:=qo (jW ao) a f;have m:=qo (jW d) a g;refine af n (af (G3 aa aa) ?_);have b:aS (iA h c+iA i c).natAbs<=131073:=di (l1 (amL _ _)) (Hj k m);refine af (A2 aa aa aa) ?_;rw[PK a (jW ao) (jW d)];rfl
def Ih (b:c8 j) (a:c8 l):sw (az j,az l,())=Y (az (gO j (jo l)),()):=by unfold sw;exact af (Wh a) (af (V2 b (P2 a)) rfl)
theorem Lp {c:Z} (d:-65536<=a) (i:e=0\/a<=hA e) (j:c=0\/a<=hA c):iA e a<iA c a↔e<c:=by
 have g:=tT i d;have h:=tT j d;have f:=kY (a+65536).toNat;constructor
 ·intro b;have:=zd b f;omega
 intro b;rw[<-g,<-h] at b;exact Int.lt_of_mul_lt_mul_right b (gB f)
theorem H9 {c:Z} (f:fv e) (g:fv c):uS (az (Y e),az (Y c),())=Y (fI e c,bp,()):=by unfold uS;refine af (Ll (a:=Y e) (b:=Y c) (λk j=>by grind) (λk j=>by grind)) ?_;obtain⟨n,ao,h,d,o,i⟩:=Md f g;have l:=qo (jW ao) d f;have m:=qo (jW h) d g;refine af i (af (M8 aa aa) ?_);grind [Lp,jW,fI]
def iz (a:Z):ajU:=hq a 0
def AB (b:-9223372036854775808<=a) (c:a<=9223372036854775807):o7 (a,())=Y (az (iz a),()):=by unfold o7;have d:aS a.natAbs<=64:=fH.2 aa;exact af (EO b c) (af (A2 aa ab ab) rfl)
def hx:ew->Z
 |[]=>0
 |d::a=>d.getD 0+hx a
def kN:ew->bA
 |[]=>bp
 |d::a=>d.isSome&&kN a
def k2 (a:ew):ajU:=if kN a=bp then om (hx a) else bq
theorem SK (b:ew):c8 (k2 b):=by
 intro c a;unfold k2 at a;split at a
 ·exact M0 _ c a
 grind
theorem SU (a b:ew):hx (a++b)=hx a+hx b:=by
 induction a with
 |nil=>simp[hx]
 |cons d a c=>grind [hx]
theorem UH (a b:ew):kN (a++b)=(kN a&&kN b):=by
 induction a with
 |nil=>simp[kN]
 |cons d a c=>grind [Bool.and_assoc,kN]
def Li (a:b<o.length):hx (o.take (b+1))=hx (o.take b)+(o[b]).getD 0:=by rw[iG,bk a];show hx (o.take b++[o[b]])=_;rw[SU];simp[hx]
theorem Mh (a:b<o.length):kN (o.take (b+1))=(kN (o.take b)&&(o[b]).isSome):=by grind [UH,aj5,b0,kN]
theorem Mg (a:kN o=bp) (d:b<o.length):∃c,o[b]=Y c:=by
 induction o generalizing b with
 |nil=>grind
 |cons f o e=>
  simp only[kN,cE] at a;cases b with
  |zero=>grind [Option.isSome_iff_exists]
  |succ b=>simp_all
theorem Mf (a:b<o.length) (c:o[b]=bq):kN o=br:=by grind [Mg]
def Wk (A:∀B∈o,c8 B) (L:o.length<=1000000):C5 (o.map az,())=Y (az (k2 o),()):=by
 unfold C5;refine bN.1 ?_;dsimp only;refine ae.aN (P:=λs=>match s with
  |.inl p=>∃b,p=(b,(br,((br,([],())),((0:Z),()))),o.map az,())/\kN o=bp/\-65536<=b/\b<=0/\(∀a d,(C:a<o.length)->o[a]=Y d->b<=c4 d)
  |.inr p=>p=(az (k2 o),())) ?_ ?_
 ·refine ae.steps o.length (λa v=>∃b,v=(b,(a:Z),(br,((br,([],())),((0:Z),()))),(o.take a).map az,())/\kN (o.take a)=bp/\-65536<=b/\b<=0/\(∀h d,(C:h<o.length)->h<a->o[h]=Y d->b<=c4 d)) ⟨0,bo,bo,ab,ab,λh d f g=>by omega⟩ ?_ ?_
  ·rintro a _ e ⟨b,rfl,f,g,t,l⟩;have z:=A o[a] (b5 e);dsimp only;rw[aQ (aJ (show(a:Z)<ak (o.map az) by simp only[a5,b9];omega))];refine ae.bs (y:=az o[a]) ?_ (ae.bs (vR z) ?_)
   ·rw[eR (by simpa using e),n4]
   dsimp only;cases m:o[a] with
   |none=>
    refine ae.bs bo (bv.2 ?_);show(az bq,())=_;rw[k2,aw];rw[Mf e m];simp
   |some d=>
    have n:fv d:=z d m;have I:=kC n;show ae ((bh _).bind _) _;rw[eC (by simp;omega)];refine bv.2 ⟨if c4 d<b then c4 d else b,?_,?_,by split<;>omega,by split<;>omega,?_⟩
    ·rw[ba aa,iG,bk e,m];simp only[Option.toList_some,j4,hX,qD,gX]
    ·rw[Mh e,f,m];rfl
    intro h K J N u;rcases cR h a with w|w
    ·have:=l h K J w u;split<;>omega
    obtain rfl:h=a:=aa;rw[m] at u;cases u;split<;>omega
  rintro _ ⟨b,rfl,f,g,t,l⟩;dsimp only;rw[aM (aC (show¬((o.length:Z)<ak (o.map az)) by simp only[a5,b9];omega))];rw[ck (cd _)] at f|-;exact bv.2 ⟨b,bo,f,g,t,λa d e j=>l a d e e j⟩
 rintro(s|s) r
 ·obtain⟨b,rfl,f,g,t,l⟩:=r;dsimp only;refine ae.aN (P:=λp=>∃c,p=((br,((br,([],())),((0:Z),()))),aV c,())/\c*2^(b+65536).toNat=hx o/\aS c.natAbs<=200000) ?_ ?_
  ·have x:∀c:Z,c.natAbs<=o.length*2^131072->aS c.natAbs<=200000:=λc G=>by
    refine di (l1 G) ?_;have:aS o.length<=20:=fH.2 aa;have D:aS (2^131072)<=131073:=fH.2 (Km 131072 131073 ab);have:=xc this D;omega
   refine ae.steps o.length (λa v=>∃c,v=((a:Z),(br,((br,([],())),((0:Z),()))),o.map az,aV c,())/\c*2^(b+65536).toNat=hx (o.take a)/\c.natAbs<=a*2^131072) ⟨0,bo,by rw[px];simp[hx],(c5 _:(0:X)<=_)⟩ ?_ ?_
   ·rintro a _ e ⟨c,rfl,i,k⟩;obtain⟨d,j⟩:=Mg f e;have n:fv d:=A o[a] (b5 e) d j;have q:=l a d e j;have H:=qo (jW q) g n;have I:=kC n;have M:=x c (cu k (ao3 _ aa));dsimp only;rw[aQ (aJ (show(a:Z)<ak (o.map az) by simp only[a5,b9];omega)),jq (by simpa using e),amM,j,gX];dsimp only;rw[cD aa aa];refine ae.bs (Jg (jW q) g aa n q) (ae.bs (G3 aa aa) (bv.2 ⟨c+iA d b,by rw[ba aa],?_,?_⟩))
    ·rw[al8,i,tT (jW q) g,Li e,j];rfl
    have E:=fH.1 H;have F:=amL c (iA d b);exact di F (PZ k E)
   rintro _ ⟨c,rfl,i,k⟩;dsimp only;rw[aM (aC (show¬((o.length:Z)<ak (o.map az)) by simp only[a5,b9];omega))];rw[ck (cd _)] at i;exact bv.2 ⟨c,bo,i,x c k⟩
  rintro _ ⟨c,rfl,i,k⟩;refine ae.bs (A2 aa aa aa) (bv.2 ?_);show(az (hq c b),())=_;rw[A6 g i.symm,k2,ax f]
 have r:s=_:=r;rw[r];exact bv.2 bo
theorem k1:(gS a==0)=bu (a=0):=by rw[gh,akd];unfold gS;omega
theorem KG {m:Z} {n:X} (e:aS m.natAbs<=1900000) (f:n<=1048576):xM (aV m,(n:Z),())=Y (aV (m/2^n),()):=by
 unfold xM;dsimp only;refine bN.1 ?_;refine ae.aN (P:=λc=>c=((n:Z),aV m,(br,([],())),())) ?_ ?_
 ·refine ae.steps 0 (λb a=>a=((n:Z),aV m,(br,([],())),())) rfl (λb a d=>by omega) ?_;rintro _ rfl;dsimp only;rw[aM (aC (aa:¬((n:Z)>1048576)))];grind [bv]
 grind [cD,anW,ae.bs,BK,bv,yS]
theorem RX {b:pw} {m:Z} (e:a2 b.2.1) (s:b.2.1.length<=100000000) (h:hg b=m) (E:aS m.natAbs<=900000) (w:-1000000000000<=a) (z:a<=1000000000000):ov (b,a,())=Y (az (hq m a),()):=by
 unfold ov;dsimp only;have g:=R0 e s;rw[h] at g;refine af g ?_;dsimp only;rw[vH,cW];split
 ·rename_i c;have:=AF.1 c;subst this;rfl
 rename_i c;have f:m≠0:=λa=>c (AF.2 a);have F:=wm (n:=m.natAbs) aa;have D:=qQ (m:=m.natAbs) aa;rw[cW];split
 ·rename_i i;have d:hq m a=bq:=(by unfold hq;grind);rw[d];rfl
 rename_i i;refine af (Sc aa f) (af (Bx aa) (af (KG (m:=(m.natAbs:Z)) (by grind) aa) ?_));have r:=(vF (n:=m.natAbs) (k:=cZ m.natAbs) aa).1 (cd _);have p:(m.natAbs:Z)/2^cZ m.natAbs=(((m/2^cZ m.natAbs).natAbs:X):Z):=(by grind [A8,FR,anX]);have o:aS ((m/2^cZ m.natAbs).natAbs)=aS m.natAbs-cZ m.natAbs:=(by rw[A8 r,xd]);rw[p];dsimp only;rw[cD (x:=a+(cZ m.natAbs:Z)) aa aa];by_cases q:a+cZ m.natAbs< -65536\/65536<a+aS m.natAbs
 ·have d:hq m a=bq:=(by simp_all [aw,ax,hq]);rw[d];refine af (y:=.inr (az bq,())) ?_ bo;refine af (y:=(bp,(br,((br,([],())),((0:Z),()))),aV ((m/2^cZ m.natAbs).natAbs:Z),())) ?_ bo;by_cases j:a+(cZ m.natAbs:Z)< -65536
  ·grind
  rw[aC j];refine af (Bz (by grind)) ?_;rw[amK,o];dsimp only;rw[cD aa aa,aJ (aa:a+(cZ m.natAbs:Z)+((aS m.natAbs-cZ m.natAbs:X):Z)>65536)]
 obtain⟨l,A⟩:=NW f q;rw[l];refine af (y:=.inl ((br,((br,([],())),((0:Z),()))),aV ((m/2^cZ m.natAbs).natAbs:Z),())) ?_ ?_
 ·refine af (y:=(br,(br,((br,([],())),((0:Z),()))),aV ((m/2^cZ m.natAbs).natAbs:Z),())) ?_ bo;rw[aC (aa:¬(a+(cZ m.natAbs:Z)< -65536))];refine af (Bz (by grind)) ?_;grind [cD,aC,amK]
 dsimp only;congr 3;have t:b.1=bu (m/2^cZ m.natAbs<0):=(by have B:(m/2^cZ m.natAbs<0)↔m<0:=Fs (v:=m);have C:b.1=bu (m<0):=(by have u:=gH e;unfold hg at h;grind);grind);rw[t];rfl
def wb {e:Z} (d:aS a.natAbs<=900000) (b:-1000000000000<=e) (c:e<=1000000000000):ov (aV a,e,())=Y (az (hq a e),()):=
 RX (mB a) (by have:=(h0 (z:=a) aa).2.2;omega) (oS a) d b c
def mJ {d:ajU} (c:c8 d):ld (az d,())=Y (az d,()):=by
 cases d with
 |none=>rfl
 |some b=>
  have a:=c b bo;have f:=km a;have g:=kC a;unfold ld;rw[gX];refine af (wb (e:=c4 b) aa aa aa) ?_;rw[Fk a,gX]
theorem vp (a:ajU):(az a).1=!a.isSome:=by
 cases a with
 |none=>rfl
 |some b=>rw[gX];rfl
def FY (a:c8 j):u9 (az j,())=Y (kn j,()):=by
 unfold u9;refine af (mJ a) ?_;cases j with
 |none=>rfl
 |some b=>
  have c:=km (a b bo);rw[gX];refine af (kZ aa) ?_;show Y (gS (cY b),())=_;rw[Sv];rfl
theorem adR (b:c8 j):D1 (az j,())=Y (az (jo j),()):=by
 unfold D1;refine af (mJ b) ?_;cases j with
 |none=>rfl
 |some a=>
  have c:=b a bo;have f:=km c;have g:=kC c;rw[gX];refine af (RZ aa) (af (wb (e:=c4 a) (by grind) aa aa) ?_);have d:fv (-a):=(by grind [al7,fv]);rw[<-JP,<-Ir,Fk d];rfl
theorem KF (b:c8 j):xL (az j,())=Y (az (nz j),()):=by
 unfold xL;refine af (mJ b) ?_;cases j with
 |none=>rfl
 |some a=>
  have c:=b a bo;have f:=km c;have g:=kC c;rw[gX];refine af (Bx aa) (af (wb (e:=c4 a) (by grind) aa aa) ?_);have d:fv (a.natAbs:Z):=(by grind [amK,fv]);rw[<-Qa,<-N4,Fk d];rfl
theorem S9 (a:Z):iA 0 a=0:=by unfold iA;rw[Ft,px]
theorem yY (a:Z):iA a (c4 a)=cY a:=by grind [iA]
theorem Mc (g:fv a) (h:fv e):∃b,(a=0\/b<=hA a)/\(e=0\/b<=hA e)/\-65536<=b/\b<=65536/\sO (az (Y a),az (Y e),())=Y (aV (iA a b),aV (iA e b),b,()):=by
 have k:=kC g;have l:=kC h;have i:=km g;have j:=km h;by_cases c:a=0
 ·subst c;refine⟨c4 e,.inl bo,jW (akY _),aa,aa,?_⟩;unfold sO;rw[gX,gX];refine af (kZ aa) ?_;grind [k1,aJ,S9,yY]
 by_cases d:e=0
 ·subst d;refine⟨c4 a,jW (akY _),.inl bo,aa,aa,?_⟩;unfold sO;rw[gX,gX];refine af (kZ aa) ?_;dsimp only;rw[k1,aC (ki c)];refine af (kZ aa) ?_;grind [k1,aJ,S9,yY]
 by_cases f:c4 a>c4 e
 ·refine⟨c4 e,jW aa,jW (akY _),aa,aa,?_⟩;unfold sO;rw[gX,gX];refine af (kZ aa) ?_;dsimp only;rw[k1,aC (ki c)];refine af (kZ aa) ?_;dsimp only;rw[k1,aC (ki d),aJ f,cD aa aa,yY];refine af (BK aa aa aa) ?_;grind [nU,iA,c4]
 refine⟨c4 a,jW (akY _),jW aa,aa,aa,?_⟩;unfold sO;rw[gX,gX];refine af (kZ aa) ?_;dsimp only;rw[k1,aC (ki c)];refine af (kZ aa) ?_;dsimp only;rw[k1,aC (ki d),aC f,cD (x:=c4 e-c4 a) aa aa,yY];refine af (BK aa aa aa) ?_;grind [nU,iA,c4]
theorem BB (h:c8 j) (f:c8 l):sK (az j,az l,())=Y (az (gO j l),()):=by
 unfold sK;refine af (mJ h) (af (mJ f) ?_);cases j with
 |none=>rfl
 |some a=>
  cases l with
  |none=>dsimp only;rw[gX a];rfl
  |some c=>
   have i:=h a bo;have k:=f c bo;obtain⟨b,ao,g,d,p,o⟩:=Mc i k;have m:=qo ao d i;have n:=qo g d k;refine af (y:=.inl (az (Y a),az (Y c),(br,((br,([],())),((0:Z),()))),())) ?_ ?_
   ·grind [vp]
   dsimp only;refine af o (af (By aa aa) ?_);have f:aS (iA a b+iA c b).natAbs<=131073:=cu (l1 (amL _ _)) (Hj m n);refine af (wb (e:=b) aa aa aa) ?_;rw[PK d ao g];rfl
def BD (b:c8 j) (a:c8 l):sN (az j,az l,())=Y (az (gO j (jo l)),()):=by unfold sN;exact af (adR a) (af (BB b (P2 a)) rfl)
def kl (a:c8 j) (b:c8 l):jV (az j,az l,())=Y (az (fD j l),()):=by
 unfold jV;refine af (mJ a) (af (mJ b) ?_);cases j with
 |none=>rfl
 |some c=>
  cases l with
  |none=>dsimp only;rw[gX c];rfl
  |some d=>
   have e:=km (a c bo);have f:=km (b d bo);have g:=kC (a c bo);have h:=kC (b d bo);rw[gX,gX];refine af bo ?_;dsimp only;refine af (ad5 aa aa) ?_;dsimp only;rw[cD aa aa];refine af (wb ?_ aa aa) rfl;rw[ao1];have:=xc e f;omega
theorem RL (f:fv e) (g:fv a):DZ (az (Y e),az (Y a),())=Y (fI e a,bp,()):=by
 unfold DZ;refine af (mJ (d:=Y e) (λl i=>by grind)) (af (mJ (d:=Y a) (λl i=>by grind)) ?_);obtain⟨o,ao,c,b,p,h⟩:=Mc f g;have m:=qo ao b f;have n:=qo c b g;refine af (y:=.inl (az (Y e),az (Y a),())) ?_ ?_
 ·dsimp only;rw[vp,vp];rfl
 dsimp only;refine af h (af (adF aa aa) ?_);have j:=Lp b ao c;have k:=Lp b c ao;dsimp only;unfold fI;simp only[j,k]
def BC (b:-9223372036854775808<=a) (c:a<=9223372036854775807):sM (a,())=Y (az (iz a),()):=by unfold sM;have d:aS a.natAbs<=64:=fH.2 aa;exact af (KJ b c) (af (wb aa ab ab) rfl)
def RM (Q:∀F∈o,c8 F) (r:o.length<=1000000):Aj (o.map az,())=Y (az (k2 o),()):=by
 unfold Aj;refine bN.1 ?_;dsimp only;have O:∀c:Z,c.natAbs<=o.length*2^131072->aS c.natAbs<=200000:=λc S=>(by refine cu (l1 S) ?_;have:aS o.length<=20:=fH.2 aa;have L:aS (2^131072)<=131073:=fH.2 (Km 131072 131073 ab);have:=xc this L;omega);have z:∀(c a:Z) (d:X),-65536<=a->d<=o.length->(hx (o.take d)).natAbs<=d*2^131072->c*2^(a+65536).toNat=hx (o.take d)->aS c.natAbs<=200000:=λc a d V l j f=>(by refine O c (cu ?_ (ao3 _ l));refine cu ?_ j;rw[<-f,lK];exact ao2 _ (alG _));refine ae.aN (P:=λi=>match i with
  |.inl n=>∃a c,n=(a,(br,((br,([],())),((0:Z),()))),aV c,())/\kN o=bp/\-65536<=a/\a<=65536/\c*2^(a+65536).toNat=hx o/\aS c.natAbs<=200000
  |.inr n=>n=(az (k2 o),())) ?_ ?_
 ·refine ae.steps o.length (λd T=>∃a c,T=(a,(d:Z),(br,((br,([],())),((0:Z),()))),aV c,())/\kN (o.take d)=bp/\-65536<=a/\a<=65536/\c*2^(a+65536).toNat=hx (o.take d)/\(hx (o.take d)).natAbs<=d*2^131072) ⟨0,0,bo,bo,ab,ab,by rw[px];simp[hx],(c5 _:(0:X)<=_)⟩ ?_ ?_
  ·rintro d _ l ⟨a,c,rfl,j,f,q,g,p⟩;have w:=Q o[d] (b5 l);have D:=z c a d f aa p g;dsimp only;rw[aQ (aJ (show(d:Z)<ak (o.map az) by simp only[a5,b9];omega))];refine ae.aN (P:=λi=>match i with
    |.inl n=>∃b a c,o[d]=Y b/\n=(a,(br,((br,([],())),((0:Z),()))),aV c,())/\-65536<=a/\a<=65536/\c*2^(a+65536).toNat=hx (o.take d)+b
    |.inr n=>n=.inr (.inr (az (k2 o),()))) ?_ ?_
   ·refine ae.bs (y:=az o[d]) ?_ (ae.bs (mJ w) ?_)
    ·rw[eR (by simpa using l),n4]
    dsimp only;cases A:o[d] with
    |none=>
     refine ae.bs bo (bv.2 ?_);show _=Sum.inr (Sum.inr (az (k2 o),()));rw[k2,aw]
     ·rfl
     rw[Mf l A];simp
    |some b=>
     have s:fv b:=w b A;have ap:=kC s;have am:=km s;rw[gX];refine ae.bs (kZ aa) ?_;dsimp only;rw[k1];by_cases E:b=0
     ·subst E;rw[aJ (show cY 0=0 from rfl)];exact bv.2 ⟨0,a,c,bo,bo,f,q,by rw[g];omega⟩
     rw[aC (ki E)];refine ae.bs (kZ aa) ?_;dsimp only;rw[k1];by_cases C:c=0
     ·subst C;rw[aJ bo];refine bv.2 ⟨b,c4 b,cY b,bo,bo,aa,aa,?_⟩;have:=tT (v:=b) (e:=c4 b) (jW (akY _)) aa;rw[yY] at this;rw[this,<-g];simp
     rw[aC C];by_cases t:c4 b>=a
     ·rw[aJ t,cD aa aa];refine ae.bs (BK aa aa aa) ?_;have R:qk (cY b) (c4 b-a)=iA b a:=by
       obtain⟨m,r⟩:∃m:X,c4 b-a=m:=⟨(c4 b-a).toNat,aa⟩;rw[r,nU,iA,r];rfl
      have an:=qo (jW t) f s;rw[R];refine ae.bs (By aa aa) (bv.2 ⟨b,a,c+iA b a,bo,bo,f,q,?_⟩);rw[al8,g,tT (jW t) f]
     rw[aC t,cD (x:=a-c4 b) aa aa];obtain⟨m,r⟩:∃m:X,a-c4 b=m:=⟨(a-c4 b).toNat,aa⟩;have B:c*2^m*2^(c4 b+65536).toNat=hx (o.take d):=(by rw[<-g,lC,<-mn];congr 2;omega);have ad:=z (c*2^m) (c4 b) d aa aa p B;rw[r];refine ae.bs (BK aa aa aa) ?_;rw[nU];refine ae.bs (By aa aa) (bv.2 ⟨b,c4 b,c*2^m+cY b,bo,bo,aa,aa,?_⟩);have:=tT (v:=b) (e:=c4 b) (jW (akY _)) aa;rw[yY] at this;rw[al8,B,this]
   rintro(i|i) h
   ·obtain⟨b,G,U,u,rfl,H,I,J⟩:=h;have s:fv b:=w b u;refine bv.2 ⟨G,U,by rw[ba aa],by rw[Mh l,j,u];rfl,H,I,by rw[Li l,u];exact J,?_⟩;rw[Li l,u];have M:=amL (hx (o.take d)) b;have N:b.natAbs<2^131072:=(fH (k:=131072)).1 s;show(hx (o.take d)+b).natAbs<=_;have K:=PZ p N;exact di M K
   have h:i=_:=h;rw[h];exact bv.2 bo
  rintro _ ⟨a,c,rfl,j,f,q,g,p⟩;dsimp only;rw[aM (aC (show¬((o.length:Z)<ak (o.map az)) by simp only[a5,b9];omega))];have D:=z c a o.length f (cd _) p g;rw[ck (cd _)] at j g;exact bv.2 ⟨a,c,bo,j,f,q,g,D⟩
 rintro(i|i) h
 ·obtain⟨a,c,rfl,j,f,q,g,p⟩:=h;refine ae.bs (wb aa aa aa) (bv.2 ?_);show(az (hq c a),())=_;rw[A6 f g.symm,k2,ax j]
 have h:i=_:=h;rw[h];exact bv.2 bo
def cS (a:Z):Z:=a/4503599627370496 %2048
def g6 (a:Z):Z:=a %4503599627370496
def c9 (a:Z):Prop:=0<=a/\a<18446744073709551616
def bj (a:Z):ajU:=
 if cS a=2047 then bq
 else hq (if a<9223372036854775808 then if cS a=0 then g6 a else g6 a+4503599627370496 else-(if cS a=0 then g6 a else g6 a+4503599627370496)) (if cS a=0 then-1074 else cS a-1075)
theorem gj (b:Z):c8 (bj b):=by
 intro c a;unfold bj at a;split at a
 ·cases a
 exact Jz _ _ c a
def Ko (b:c9 a):xo (a,())=Y (cS a,g6 a,()):=by unfold xo;dsimp only;have c:=b.1;have d:=b.2;rw[tN ab ab,bM,show(2:Z)^(52:Z).toNat=4503599627370496 from rfl,w6 11 aa aa 2047 ab ab,w6 52 aa aa 4503599627370495 ab ab,cD aa aa];rfl
theorem MG (g:c9 a):(eZ bE a 9223372036854775808 !=0)=bu (9223372036854775808<=a):=by
 obtain⟨c,j⟩:=g;obtain⟨b,rfl⟩:=fZ c;have f:b<18446744073709551616:=aa;have d:(9223372036854775808:Z)=((2^63:X):Z):=rfl;rw[d,Ml f ab,fq];rcases cR b (2^63) with e|e
 ·have h:b&&&2^63=0:=by
   refine aoR λk=>?_;rw[aoS,anB,Nat.zero_testBit];grind
  grind
 have h:b&&&2^63≠0:=(by intro i;have c:(b&&&2^63).testBit 63=br:=(by grind);grind);grind
theorem Zk (b:c9 a):C8 (a,())=Y (bu (9223372036854775808<=a),()):=by grind [MG,C8]
theorem E1 (b:c9 a):ou (a,())=Y (!bu (cS a=2047),()):=by simp_all [fq,af,Ko,ou]
def p9 (a:Z):Z:=if cS a=2047 then if g6 a=0 then 2 else 3 else if cS a=0/\g6 a=0 then 0 else 1
theorem Yb (b:c9 a):C6 (a,())=Y (p9 a,()):=by unfold C6 p9;refine af (Ko b) ?_;grind
theorem EF (a:Z):0<=g6 a/\g6 a<4503599627370496:=by grind [g6]
theorem AI (a:Z):0<=cS a/\cS a<2048:=by grind [cS]
theorem Bd (g:c9 a):kP (a,())=Y (az (bj a),()):=by
 unfold kP bj;have o:=EF a;have n:=AI a;refine af (Ko g) ?_;dsimp only;rw[gh,gh];by_cases e:cS a=2047
 ·rw[aJ e,ax e];rfl
 rw[aC e,aw e];obtain⟨b,d,h,i,j,k,l,f⟩:∃b d,(bif bu (cS a=0) then some (Sum.inl ((-1074:Z),g6 a,((false,((false,([],())),((0:Z),()))):eP),())) else some (.inl (au (cS a-1075),gr bE (g6 a) 4503599627370496,(false,((false,([],())),((0:Z),()))),())):bw ((Z×Z×eP×bt)⊕gg))=some (.inl (d,b,(false,((false,([],())),((0:Z),()))),()))/\0<=b/\b<9007199254740992/\-1074<=d/\d<=972/\(b=(if cS a=0 then g6 a else g6 a+4503599627370496)/\d=(if cS a=0 then-1074 else cS a-1075)):=by
  by_cases c:cS a=0
  ·refine⟨g6 a,-1074,?_,aa,aa,aa,aa,by rw[ax c],by rw[ax c]⟩;grind
  refine⟨g6 a+4503599627370496,cS a-1075,?_,aa,aa,aa,aa,by rw[aw c],by rw[aw c]⟩;rw[aC c,cD aa aa,nb 52 aa aa aa aa aa ab];rfl
 rw[<-f.1,<-f.2];refine af h ?_;dsimp only;rw[cD aa aa];have m:aS b.natAbs<=53:=fH.2 aa;refine af (EO aa aa) ?_;refine af (y:=((br,((br,([],())),((0:Z),()))),aV (if a<9223372036854775808 then b else-b),())) ?_ ?_
 ·refine af (Zk g) ?_;dsimp only;by_cases c:a<9223372036854775808
  ·grind
  rw[aJ (aa:9223372036854775808<=a),aw c];exact af (P4 (li aa)) rfl
 dsimp only;refine af (A2 ?_ aa aa) rfl;grind
def rc (d:bA) (a:X) (b:Z) (c:bA):w3:=(d,aV (a:Z),b,c,())
theorem oF (a:X):(a:Z).natAbs=a:=by omega
theorem YD (e:aS b<=900000) (c:-10000000<=a) (d:a<=10000000):C3 (rc k b a g,())=Y (a+aS b-1,()):=by unfold C3 rc;refine af (CP (li (by grind))) ?_;grind [cD,oF]
theorem V0 {t:bA} (l:aS b<=900000) (u:0<b) (B:0<d) (C:d<=10000000):zN (rc t b a g,(d:Z),())=Y (aV ((b/2^d:X):Z),kO b d g,bu (b %2^d=0)&&!g,()):=by
 unfold zN rc;refine af (CP (li (by grind))) ?_;rw[oF];dsimp only;have D:=alG d;rw[cW];split
 ·rename_i p;have q:b<2^(d-1):=fH.1 aa;obtain⟨c,rfl⟩:∃c,d=c+1:=⟨d-1,aa⟩;simp only[Nat.add_sub_cancel] at q;have ao:b %2^(c+1)=b:=Nat.mod_eq_of_lt aa;have h:b/2^(c+1)=0:=amN aa;rw[ao,h];have i:kO b (c+1) g=-1:=(by unfold kO;omega);rw[i,aC (aa:¬b=0)];rfl
 rename_i p;have w:=amt b (2^d);have E:aS (b/2^d)<=900000:=cu (l1 (amO _ _)) l;have F:aS (b %2^d)<=900000:=cu (l1 (Nat.mod_le _ _)) l;have r:b/2^d*2^d<=b:=Nat.div_mul_le_self _ _;refine af (RV (m:=(b:Z)) (n:=d) (by grind) aa) ?_;have ao:(b:Z)/2^d=((b/2^d:X):Z):=(by grind);rw[ao];refine af (E9 (m:=((b/2^d:X):Z)) (k:=(d:Z)) (by grind) aa aa) ?_;have h:((b/2^d:X):Z)*2^(d:Z).toNat=((b/2^d*2^d:X):Z):=(by grind);rw[h];refine af (ae4 (x:=(b:Z)) (y:=((b/2^d*2^d:X):Z)) (by grind) (by rw[oF];exact cu (l1 r) aa)) ?_;have i:(b:Z)-((b/2^d*2^d:X):Z)=((b %2^d:X):Z):=(by grind);rw[i];refine af (EO (n:=1) ab ab) ?_;dsimp only;rw[cD (x:=(d:Z)-1) aa aa];refine af (E9 (m:=1) (k:=(d:Z)-1) ab aa aa) ?_;obtain⟨c,rfl⟩:∃c,d=c+1:=⟨d-1,aa⟩;have o:(1:Z)*2^(((c+1:X):Z)-1).toNat=((2^c:X):Z):=(by grind);rw[o];have A:aS (2^c)<=900000:=(by have:aS (2^c)<=c+1:=fH.2 (aoK ab aa);omega);refine af (M8 (x:=((b %2^(c+1):X):Z)) (y:=((2^c:X):Z)) (by grind) (by grind)) ?_;dsimp only;have v:(if fI ((b %2^(c+1):X):Z) ((2^c:X):Z)=0/\g=bp then 1 else fI ((b %2^(c+1):X):Z) ((2^c:X):Z))=kO b (c+1) g:=by
  unfold kO fI;have s:2^(c+1)=2*2^c:=aa;generalize b %2^(c+1)=f at*;rw[s];generalize 2^c=e at*;rcases uq f e with j|j|j
  ·rw[ax (aa:(f:Z)<(e:Z)),aw ac,ax aa]
  ·grind
  rw[aw (aa:¬((f:Z)<(e:Z))),ax (aa:(e:Z)<(f:Z)),aw ac,aw aa,ax aa]
 refine af (y:=(kO b (c+1) g,aV ((b/2^(c+1):X):Z),aV ((b %2^(c+1):X):Z),())) ?_ ?_
 ·grind
 refine af (wh (z:=((b %2^(c+1):X):Z)) (li (by grind))) ?_;grind [aC,aJ,k1]
theorem Bb {n:X}:(n≠0/\cZ n=0)↔n %2=1:=by
 constructor
 ·rintro⟨b,c⟩;have:=vF (n:=n) (k:=1) aa;omega
 intro a;refine⟨aa,?_⟩;have:=vF (n:=n) (k:=1) aa;omega
theorem Zg {d:Z} (o:aS b<=900000) (w:0<b) (G:-1000000<=a-e) (H:a-e<=1000000):C4 (rc k b a g,e,d,())=Y (aV (if k then-((if e<=a then b*2^(a-e).toNat else iL k b (e-a).toNat g d:X):Z) else((if e<=a then b*2^(a-e).toNat else iL k b (e-a).toNat g d:X):Z)),()):=by
 unfold C4;have m:∀f:X,aS f<=2000000->(bC (α:=k8) (
  bif k then
 (sC (aV (f:Z),())).bind λ(E,_)=>
 Y (((br,([],())):eG),E,()) else
 Y ((br,([],())),aV (f:Z),())) λ(_,D,_)=>
 Y (D,()))=Y (aV (if k then-(f:Z) else(f:Z)),()):=λf J=>by
  cases k
  ·rfl
  refine af (y:=((br,([],())),aV (-(f:Z)),())) ?_ bo;have I:Fit (f:Z)\/True:=.inr trivial;have p:=h0 (z:=(f:Z)) (by grind);refine af (y:=(aV (-(f:Z)),())) ?_ bo;unfold sC;refine af (CU (by have:=p.2.2;omega)) (af (xa (mB _) (by have:=p.2.2;omega)) ?_);grind [oS,Gu]
 by_cases j:e<=a
 ·rw[ax j];obtain⟨c,h⟩:∃c:X,a-e=c:=⟨(a-e).toNat,aa⟩;rw[h,fF];refine af (y:=((-1:Z),bp,(br,([],())),aV ((b*2^c:X):Z),())) ?_ ?_
  ·show(bif bu (e<=a) then _ else _)=_;rw[aJ j];refine af (y:=(aV ((b*2^c:X):Z),())) ?_ bo;show oq (aV (b:Z),au (a-e),())=_;rw[cD aa aa,E9 (by grind [oF]) aa aa,h,fF,uc,FR]
  refine af bo (af bo ?_);exact m _ (di CQ aa)
 rw[aw j];obtain⟨c,h⟩:∃c:X,e-a=c:=⟨(e-a).toNat,aa⟩;rw[h,fF];refine af (y:=(kO b c g,bu (b %2^c=0)&&!g,(br,([],())),aV ((b/2^c:X):Z),())) ?_ ?_
 ·show(bif bu (e<=a) then _ else _)=_;rw[aC j];refine af (y:=(aV ((b/2^c:X):Z),kO b c g,bu (b %2^c=0)&&!g,())) ?_ bo;show zN (rc k b a g,au (e-a),())=_;rw[cD aa aa,h];exact V0 o w aa aa
 have A:aS (b/2^c)<=900000:=di (l1 (amO _ _)) o;refine af (y:=(!(bu (b %2^c=0)&&!g)&&wn k (kO b c g) (bu (b/2^c %2=1)) d,(br,([],())),aV ((b/2^c:X):Z),())) ?_ ?_
 ·dsimp only;cases r:(bu (b %2^c=0)&&!g) with
  |true=>rfl
  |false=>
   show(bif d==1 then Y (k,_,_,()) else _)=_;unfold wn;rw[gh,gh,gh];by_cases s:d=1
   ·grind
   rw[aC s,aw s];by_cases l:d=2
   ·rw[aJ l,ax l];rfl
   rw[aC l,aw l];by_cases t:d=3
   ·grind
   rw[aC t,aw t];generalize kO b c g=i;show(bif bu (i>0)==br then _ else _)=_;by_cases v:i>0
   ·grind
   rw[aC v];show(bif (i==0)==bp then _ else _)=_;rw[gh];by_cases u:i=0
   ·rw[aJ u];refine af (wh (z:=((b/2^c:X):Z)) (li (by grind [oF]))) ?_;dsimp only;have K:=Bb (n:=b/2^c);rw[fq];by_cases F:b/2^c=0
    ·rw[aJ (show gS ((b/2^c:X):Z)=0 by rw[F];rfl),aC (aa:¬(b/2^c %2=1))];rfl
    have B:gS ((b/2^c:X):Z)≠0:=(by unfold gS;omega);rw[aC B];refine af (S8 (z:=((b/2^c:X):Z)) (li (by grind [oF])) aa) ?_;rw[oF];simp_all [aC,aJ,gh,cZ]
   grind
 dsimp only;refine af (y:=((br,([],())),aV ((iL k b c g d:X):Z),())) ?_ ?_
 ·unfold iL;by_cases r:b %2^c=0/\g=br
  ·simp_all
  have C:(bu (b %2^c=0)&&!g)=br:=(by grind);rw[aw r,C];by_cases q:wn k (kO b c g) (bu (b/2^c %2=1)) d=bp
  ·rw[ax q,q];refine af (EO (n:=1) ab ab) ?_;refine af (G3 (x:=((b/2^c:X):Z)) (y:=1) (by grind [oF]) ab) ?_;rfl
  simp_all
 refine m _ ?_;have:iL k b c g d<=b/2^c+1:=(by unfold iL;grind);exact di (l1 this) (di (Hj A (ab:aS 1<=900000)) aa)
def BT (b:0<=a) (c:a<9223372036854775808):uV (a,g,())=Y (mM g a,()):=by
 unfold uV mM;cases g
 ·rfl
 dsimp only;rw[nb 63 b (by exact c) ab aa ab ab,amD];rfl
theorem Rf:C9 (g,a,())=Y (rE g a,()):=by
 unfold C9 rE;dsimp only;refine af (y:=if(a=3\/(a=1/\g=br)\/(a=2/\g=bp)) then .inr (mM g 9218868437227405311,()) else .inl ()) ?_ ?_
 ·refine af (y:=(bu (a=3\/(a=1/\g=br)\/(a=2/\g=bp)),())) ?_ ?_
  ·rw[gh,gh,gh];by_cases e:a=3
   ·grind
   by_cases c:a=1
   ·grind
   by_cases d:a=2
   ·simp_all
   grind
  dsimp only;by_cases b:(a=3\/(a=1/\g=br)\/(a=2/\g=bp))
  ·rw[aJ b,ax b];exact af (BT ab ab) rfl
  grind
 by_cases b:(a=3\/(a=1/\g=br)\/(a=2/\g=bp))
 ·rw[ax b,ax b]
 rw[aw b,aw b];exact af (BT ab ab) rfl
theorem Lq {neg vO:bA} {e pf:Z} (d:0<b):(if eE b e<=e then b*2^(e-eE b e).toNat else iL neg b (eE b e-e).toNat vO pf)<=9007199254740992:=by
 have f:=fH.1 (bd (aS b));have h:=qQ d;have i:e+aS b-53<=eE b e:=(by grind [eE]);split
 ·rename_i c;have a:b*2^(e-eE b e).toNat<2^aS b*2^(e-eE b e).toNat:=Nat.mul_lt_mul_of_pos_right f (jN _);rw[<-jM] at a;have g:2^(aS b+(e-eE b e).toNat)<=2^53:=wR ab aa;omega
 rename_i c;have a:b/2^(eE b e-e).toNat<2^53:=(by rw[ams (jN _),<-jM];grind [Nat.lt_of_lt_of_le,Nat.pow_le_pow_right]);grind [iL]
theorem aeb {d:Z} (s:aS b<=800000) (j:0<b) (q:-500000<=a) (r:a<=500000):zR (rc g b a k,d,())=Y (mK g b a k d,()):=by
 have t:=qQ j;have u:=Lq (neg:=g) (vO:=k) (pf:=d) (e:=a) j;have o:mK g b a k d=pj g (if eE b a<=a then b*2^(a-eE b a).toNat else iL g b (eE b a-a).toNat k d) (eE b a) d:=(by grind [mK]);have p:eE b a=if(-1074:Z)>a+aS b-1-52 then-1074 else a+aS b-1-52:=by grind [eE]
 have w:-1074<=eE b a:=aa;have A:eE b a<=1400000:=aa;unfold zR;refine af (YD aa aa aa) ?_;dsimp only;rw[cD aa aa,<-p,o];refine af (Zg aa j ?_ ?_) ?_
 ·omega
 ·omega
 generalize(if eE b a<=a then b*2^(a-eE b a).toNat else iL g b (eE b a-a).toNat k d)=c at*;generalize eE b a=f at*;have v:aS c<=54:=fH.2 aa;have n:(if g then-(c:Z) else(c:Z)).natAbs=c:=aa;refine af (G1 (li (by grind))) ?_;rw[n];refine af (XX (z:=(c:Z)) aa aa) ?_;dsimp only;rw[gT (x:=(c:Z)) aa aa,gh];show bC _ _=Y (pj g c f d,());unfold pj;by_cases l:c=9007199254740992
 ·rw[aJ (aa:(c:Z)=9007199254740992),aw (aa:¬c<4503599627370496),ax l];refine af (y:=(f+1,4503599627370496,())) ?_ ?_
  ·grind [cq]
  dsimp only;rw[aC (aa:¬((4503599627370496:Z)<4503599627370496)),cD aa aa,bR,cW];split
  ·rename_i i;exact af Rf bo
  rename_i i;rw[gT aa aa,nV ab ab,show(2:Z)^(52:Z).toNat=4503599627370496 from rfl,aI];have ao:aY (4503599627370496-4503599627370496)=0:=(by grind [gT]);have h:(f+1+1075)*4503599627370496 %18446744073709551616=(f+1+1075)*4503599627370496:=aa;rw[ao,h,Bn,nb 52 ab ab aa ab aa aa,alg];exact af (BT aa aa) rfl
 rw[aC (aa:¬(c:Z)=9007199254740992)];refine af (y:=(f,(c:Z),())) rfl ?_;dsimp only;rw[cW];by_cases m:c<4503599627370496
 ·rw[ax (aa:(c:Z)<4503599627370496),ax m];exact af (BT aa aa) rfl
 rw[aw (aa:¬(c:Z)<4503599627370496),aw m,aw l,cD aa aa,cW];split
 ·rename_i i;exact af Rf bo
 rename_i i;rw[gT (x:=f+1075) aa aa,nV ab ab,show(2:Z)^(52:Z).toNat=4503599627370496 from rfl,bM,gT (x:=(c:Z)-4503599627370496) aa aa];have h:(f+1075)*4503599627370496 %18446744073709551616=(f+1075)*4503599627370496:=aa;rw[h,Bn,nb 52 aa aa aa aa aa aa];refine af (BT aa aa) ?_;dsimp only;congr 3;omega
def oK (c d:ajU) (e:Z):Z:=match c,d with
 |some a,Y b=>if b=0 then 9221120237041090560 else if a=0 then 0 else Bw a b e
 |_,_=>9221120237041090560
def F6 (b:ajU) (c:Z):Z:=match b with
 |some a=>if a<0 then 9221120237041090560 else if a=0 then 0 else KK a c
 |none=>9221120237041090560
def Fv (a:Z):(aV (cY a)).1=bu (a<0):=by show bu (cY a<0)=_;rw[akd];exact Fs
theorem aen:qZ (aV 0,())=Y (0,()):=by
 unfold qZ;refine af (tL (l:=[]) a2.nil (λf b=>by cases b) ab) ?_;refine bN.1 (ae.aN (P:=λd=>d=.inl ()) ?_ ?_)
 ·refine ae.steps 0 (λc a=>a=((0:Z),())) rfl (λc a e=>by omega) ?_;grind [bv]
 grind [bv]
theorem R1 {n:X} (c:aS n<=900000):∃a,qZ (aV (n:Z),())=Y (a,())/\((a=0/\n≠0)↔n %2=1):=by
 by_cases b:n=0
 ·grind [aen]
 refine⟨(cZ n:Z),?_,?_⟩
 ·grind [oF,Sc]
 grind [Bb]
theorem afG:D3 (g,a,k,e,())=Y (wn g a k e,()):=by unfold D3 wn;grind
theorem adH (q:aS b<=800000) (C:d<=1000000):D0 (k,aV (b:Z),(d:Z),g,a,())=Y (aV ((iL k b d g a:X):Z),()):=by
 unfold D0;have f:∀e:X,(b:Z)/2^e=((b/2^e:X):Z):=λe=>(by rw[<-FR,<-anX]);have o:∀e:X,bu (((b:Z).natAbs:Z) %2^e≠0)=bu (b %2^e≠0):=λe=>(by grind);have E:∀e,aS (b/2^e)<=800000:=λe=>cu (l1 (amO _ _)) q;refine af (KG (m:=(b:Z)) (n:=d) (by grind) aa) ?_;rw[f];refine af (RW (z:=(b:Z)) (n:=d) (by grind) aa) ?_;rw[o];dsimp only;by_cases v:b %2^d=0/\g=br
 ·simp_all [ax,aC,af,iL,aV]
 refine af (y:=.inl ((br,([],())),aV ((b/2^d:X):Z),())) ?_ ?_
 ·grind
 dsimp only;refine af (y:=(kO b d g,(br,([],())),aV ((b/2^d:X):Z),())) ?_ ?_
 ·rw[cW];split
  ·rename_i p;obtain⟨c,rfl⟩:∃c,d=c+1:=⟨d-1,aa⟩;have l:au (((c+1:X):Z)-1)=(c:Z):=(by grind [cD]);rw[l];refine af (KG (m:=(b:Z)) (n:=c) (by grind) aa) ?_;rw[f];obtain⟨j,h,t⟩:=R1 (n:=b/2^c) (by grind);have r:=JB b c 1;rw[Nat.pow_one] at r;have B:=ak8 b (jN c);have D:2^(c+1)=2*2^c:=aa;refine af (y:=(bu (b/2^c %2=1),(br,([],())),aV ((b/2^(c+1):X):Z),())) ?_ ?_
   ·refine af h ?_;dsimp only;rw[gh];by_cases w:j=0
    ·rw[aJ w];refine af (kZ (z:=((b/2^c:X):Z)) (by grind)) ?_;grind [k1,aJ,aC]
    grind
   dsimp only;unfold kO;by_cases s:b/2^c %2=1
   ·rw[aJ s];have u:b %2^(c+1)=2^c+b %2^c:=(by grind);rw[u,aw aa];cases g
    ·show(bC _ _)=_;refine af (RW (z:=(b:Z)) (n:=c) (by grind) aa) ?_;grind
    grind
   grind
  rename_i p;obtain rfl:d=0:=aa;simp_all [ax,Nat.pow_zero,Nat.mod_one,kO]
 dsimp only;obtain⟨j,h,t⟩:=R1 (n:=b/2^d) (by grind);refine af (y:=(bu (b/2^d %2=1),(br,([],())),aV ((b/2^d:X):Z),())) ?_ ?_
 ·refine af (kZ (z:=((b/2^d:X):Z)) (by grind)) ?_;dsimp only;have A:(gS ((b/2^d:X):Z)!=0)=bu (b/2^d≠0):=by
   grind [aC,aJ,k1]
  grind
 dsimp only;refine af (y:=((br,([],())),aV ((iL k b d g a:X):Z),())) ?_ bo;refine af afG ?_;dsimp only;unfold iL;rw[cw v];by_cases i:wn k (kO b d g) (bu (b/2^d %2=1)) a=bp
 ·rw[ax i,i];refine af (KJ (n:=1) ab ab) ?_;refine af (By (x:=((b/2^d:X):Z)) (y:=1) (by grind) ab) ?_;rfl
 grind
def BL (b:0<=a) (c:a<9223372036854775808):q0 (g,a,())=Y (mM g a,()):=by
 unfold q0 mM;cases g
 ·rfl
 dsimp only;rw[nb 63 b (by exact c) ab aa ab ab,amD];rfl
theorem R6:Ak (g,a,())=Y (rE g a,()):=by
 unfold Ak rE;dsimp only;refine af (y:=if(a=3\/(a=1/\g=br)\/(a=2/\g=bp)) then .inr (mM g 9218868437227405311,()) else .inl ()) ?_ ?_
 ·refine af (y:=(bu (a=3\/(a=1/\g=br)\/(a=2/\g=bp)),())) ?_ ?_
  ·rw[gh,gh,gh];by_cases e:a=3
   ·grind
   by_cases c:a=1
   ·grind
   by_cases d:a=2
   ·simp_all
   grind
  dsimp only;by_cases b:(a=3\/(a=1/\g=br)\/(a=2/\g=bp))
  ·rw[aJ b,ax b];exact af (BL ab ab) rfl
  grind
 by_cases b:(a=3\/(a=1/\g=br)\/(a=2/\g=bp))
 ·rw[ax b,ax b]
 rw[aw b,aw b];exact af (BL ab ab) rfl
theorem afE {neg vO:bA} {e pf:Z} (c:0<b) (j:-1074<eE b e):4503599627370496<=(if eE b e<=e then b*2^(e-eE b e).toNat else iL neg b (eE b e-e).toNat vO pf):=by
 obtain⟨f,h⟩:=zE c;have i:=qQ c;have k:eE b e=e+aS b-53:=(by grind [eE]);have g:(2:X)^52=4503599627370496:=ab;split
 ·rename_i d;have a:2^(aS b-1)*2^(e-eE b e).toNat<=b*2^(e-eE b e).toNat:=hR _ f;rw[<-jM] at a;grind
 rename_i d;have a:2^52<=b/2^(eE b e-e).toNat:=(by rw[aoM (jN _),<-jM];grind);grind [iL]
theorem R9 {f:Z} (t:aS b<=800000) (l:0<b) (C:-500000<=a) (D:a<=500000) (H:k=bp->54<=aS b):Al (g,aV (b:Z),a,k,f,())=Y (mK g b a k f,()):=by
 have E:=qQ l;have F:=Lq (neg:=g) (vO:=k) (pf:=f) (e:=a) l;have q:=afE (neg:=g) (vO:=k) (pf:=f) (e:=a) l;have r:mK g b a k f=pj g (if eE b a<=a then b*2^(a-eE b a).toNat else iL g b (eE b a-a).toNat k f) (eE b a) f:=(by grind [mK]);have s:eE b a=if(-1074:Z)>a+aS b-1-52 then-1074 else a+aS b-1-52:=by grind [eE]
 have I:-1074<=eE b a:=aa;have J:eE b a<=1400000:=aa;have w:-1000000<=eE b a-a:=aa;have A:eE b a-a<=1000000:=aa;unfold Al;refine af (Bz (z:=(b:Z)) (by grind)) ?_;rw[oF];dsimp only;rw[cD (x:=a+(aS b:Z)) aa aa,cD (x:=a+(aS b:Z)-1) aa aa,cD (x:=a+(aS b:Z)-1-52) aa aa,<-s,r,cW];split
 ·rename_i u;have K:972<=eE b a:=aa;have q:=q aa;refine af R6 ?_;clear s r w A;generalize(if eE b a<=a then b*2^(a-eE b a).toNat else iL g b (eE b a-a).toNat k f)=d at*;unfold pj;grind
 rename_i u;refine af (y:=(aV ((if eE b a<=a then b*2^(a-eE b a).toNat else iL g b (eE b a-a).toNat k f:X):Z),())) ?_ ?_
 ·rw[cW];split
  ·rename_i i;obtain⟨h,m⟩:∃h:X,eE b a-a=h:=⟨(eE b a-a).toNat,aa⟩;rw[cD (x:=eE b a-a) aa aa,m,akz];refine af (adH t aa) ?_;dsimp only;by_cases B:eE b a<=a
   ·have v:h=0:=aa;have G:k=br:=by
     grind
    rw[ax B,v];unfold iL;grind
   grind
  rename_i i;obtain⟨h,m⟩:∃h:X,a-eE b a=h:=⟨(a-eE b a).toNat,aa⟩;rw[cD (x:=a-eE b a) aa aa,ax aa,m,fF];refine af (KM (z:=(b:Z)) (n:=h) (by grind) aa) ?_;grind
 generalize(if eE b a<=a then b*2^(a-eE b a).toNat else iL g b (eE b a-a).toNat k f)=d at*;generalize eE b a=c at*;dsimp only;refine af (ad3 (z:=(d:Z)) aa aa) ?_;dsimp only;rw[gh];unfold pj;by_cases o:d=9007199254740992
 ·rw[aJ (aa:(d:Z)=9007199254740992),aw (aa:¬d<4503599627370496),ax o];refine af (y:=(c+1,4503599627370496,())) ?_ ?_
  ·grind [cq]
  dsimp only;rw[cD (x:=c+1+53) aa aa,aJ (aa:(4503599627370496:Z)>=4503599627370496)];by_cases i:c+1+1075>=2047
  ·rw[ax i];refine af (y:=.inr (rE g f,())) ?_ bo;refine af (y:=(bp,())) ?_ (af R6 bo);grind
  rw[aw i];refine af (y:=.inr (mM g ((c+1+1075)*4503599627370496),())) ?_ bo;refine af (y:=(br,())) ?_ ?_
  ·grind
  dsimp only;rw[cD (x:=c+1+1075) aa aa,gT (x:=c+1+1075) aa aa,nV ab ab,show(2:Z)^(52:Z).toNat=4503599627370496 from rfl];have ao:aY (au (4503599627370496-4503599627370496))=0:=(by grind [cD,gT]);have j:(c+1+1075)*4503599627370496 %18446744073709551616=(c+1+1075)*4503599627370496:=aa;rw[ao,j];show((q0 (g,gr bE ((c+1+1075)*4503599627370496) 0,())).bind _)=_;rw[Bn,nb 52 ab ab aa ab aa aa,alg];exact af (BL aa aa) rfl
 rw[aC (aa:¬(d:Z)=9007199254740992)];refine af (y:=(c,(d:Z),())) rfl ?_;dsimp only;rw[cD (x:=c+53) aa aa];by_cases p:d<4503599627370496
 ·rw[aC (aa:¬((d:Z)>=4503599627370496)),ax p,gT (x:=(d:Z)) aa aa];refine af (y:=.inl ()) ?_ ?_
  ·grind
  exact af (BL aa aa) rfl
 rw[aJ (aa:((d:Z)>=4503599627370496)),aw p,aw o];by_cases i:c+1075>=2047
 ·omega
 rw[aw i];refine af (y:=.inr (mM g ((c+1075)*4503599627370496+((d:Z)-4503599627370496)),())) ?_ bo;refine af (y:=(br,())) ?_ ?_
 ·grind
 dsimp only;rw[cD (x:=c+1075) aa aa,gT (x:=c+1075) aa aa,nV ab ab,show(2:Z)^(52:Z).toNat=4503599627370496 from rfl];have ao:aY (au ((d:Z)-4503599627370496))=(d:Z)-4503599627370496:=(by grind [cD,gT]);have j:(c+1075)*4503599627370496 %18446744073709551616=(c+1075)*4503599627370496:=aa;rw[ao,j];show((q0 (g,gr bE ((c+1075)*4503599627370496) ((d:Z)-4503599627370496),())).bind _)=_;rw[Bn,nb 52 aa aa aa aa aa aa];refine af (BL aa aa) ?_;grind
theorem Mj (b:c9 a):eJ bE a 52=Y (a/4503599627370496)/\eZ bE (a/4503599627370496) 2047=cS a/\eZ bE a 4503599627370495=g6 a:=by
 have c:=b.1;have d:=b.2;refine⟨?_,?_,?_⟩
 ·grind [tN]
 ·rw[w6 11 aa aa 2047 ab ab];rfl
 rw[w6 52 aa aa 4503599627370495 ab ab];rfl
theorem wa (b:c9 a):o8 (a,())=Y (!bu (cS a=2047),()):=by simp_all [fq,af,Mj,o8]
theorem ad4 (b:c9 a):D5 (a,())=Y (bu (9223372036854775808<=a),()):=by grind [MG,D5]
theorem jc (g:c9 a):iV (a,())=Y (az (bj a),()):=by
 obtain⟨i,j,k⟩:=Mj g;have t:=EF a;have s:=AI a;unfold iV bj;refine af (wa g) ?_;dsimp only;by_cases f:cS a=2047
 ·rw[aJ f,ax f];rfl
 rw[aC f,aw f,show(!!br)=br from rfl,bR,i,aI,j,k,cD (x:=cS a) aa aa];obtain⟨c,d,l,n,o,p,q,h⟩:∃c d,(bif bu (cS a>0) then some (gr bE (g6 a) 4503599627370496,au (cS a-1075),((false,((false,([],())),((0:Z),()))):eP),()) else some (g6 a,(-1074:Z),(false,((false,([],())),((0:Z),()))),()))=some (c,d,(false,((false,([],())),((0:Z),()))),())/\0<=c/\c<9007199254740992/\-1074<=d/\d<=972/\(c=(if cS a=0 then g6 a else g6 a+4503599627370496)/\d=(if cS a=0 then-1074 else cS a-1075)):=by
  by_cases e:cS a=0
  ·refine⟨g6 a,-1074,?_,aa,aa,aa,aa,by rw[ax e],by rw[ax e]⟩;grind
  refine⟨g6 a+4503599627370496,cS a-1075,?_,aa,aa,aa,aa,by rw[aw e],by rw[aw e]⟩;rw[aJ (aa:cS a>0),cD aa aa,nb 52 aa aa aa aa aa ab];rfl
 rw[<-h.1,<-h.2];refine af l ?_;dsimp only;refine af (ad4 g) ?_;rw[pp,bM];dsimp only;rw[qr c,nX (x:=c/4294967296) aa aa];have r:aS c.natAbs<=53:=fH.2 aa;refine af (RX (b:=(bu (9223372036854775808<=a),[c %4294967296,c/4294967296],())) (m:=if a<9223372036854775808 then c else-c) (a2.cons.2 ⟨⟨aa,aa⟩,a2.cons.2 ⟨⟨aa,aa⟩,a2.nil⟩⟩) ac ?_ ?_ aa aa) rfl
 ·unfold hg;simp only[ar];grind
 grind
def lu (a:ajU) (b:Z):Z:=match a with
 |none=>9221120237041090560
 |some c=>yJ c b
theorem KL (d:c8 j):xN (az j,a,())=Y (lu j a,()):=by
 unfold xN;refine af (mJ d) ?_;dsimp only;rw[vp];cases j with
 |none=>rfl
 |some b=>
  have e:=d b bo;have h:=km e;have i:=kC e;rw[gX];refine af (kZ aa) ?_;dsimp only;rw[k1];unfold lu yJ;by_cases c:b=0
  ·subst c;rw[aJ (show cY 0=0 from rfl)];rfl
  rw[aC (ki c)];simp only;rw[cw c,bR];have g:0<(cY b).natAbs:=(by grind [ki]);refine af (Bx aa) ?_;dsimp only;rw[Fv];refine af (R9 aa g aa aa (λf=>by cases f)) ?_;simp_all [cw,c4]
theorem vB (a:Z):c8 (iz a):=Jz a 0
def ad0 (b:-9223372036854775808<=a) (c:a<=9223372036854775807):D4 (a,e,())=Y (lu (iz a) e,()):=by unfold D4;exact af (BC b c) (af (KL (vB a)) rfl)
theorem aeh (g:0<b) (h:0<d) (e:aS b<=131072) (f:aS d<=131072):∃a,qf b d<=a/\a<=140000/\D2 (aV (b:Z),aV (d:Z),60,())=Y (aV ((b*2^a/d:X):Z),-(a:Z),bu (b*2^a %d≠0),()):=by obtain⟨a,i⟩:∃a,a=62+aS d-aS b:=⟨_,bo⟩;have j:a<=131134:=aa;have k:aS (b*2^a)<=262206:=(by grind [CQ]);refine⟨a,by grind [qf],aa,?_⟩;unfold D2;refine af (Bz (z:=(d:Z)) (by grind)) (af (Bz (z:=(b:Z)) (by grind)) ?_);rw[oF,oF];dsimp only;have ao:(if 0>au (au (au (60+2)+(aS d:Z))-(aS b:Z)) then 0 else au (au (au (60+2)+(aS d:Z))-(aS b:Z)))=(a:Z):=(by grind [cD]);rw[ao];refine af (KM (z:=(b:Z)) (n:=a) (by grind) aa) ?_;have c:(b:Z)*2^a=((b*2^a:X):Z):=(by grind);rw[c];refine af (adQ (x:=((b*2^a:X):Z)) (y:=(d:Z)) (by grind) (by grind) aa aa) ?_;rw[<-anX,<-Int.natCast_emod];have l:aS (b*2^a %d)<=900000:=cu (l1 (Nat.mod_le _ _)) aa;refine af (kZ (by grind)) ?_;grind [k1,aJ,aC,cD,anW]
theorem ad2 (f:c8 l) (g:c8 j):D6 (az l,az j,a,())=Y (oK l j a,()):=by
 unfold D6;refine af (mJ f) (af (mJ g) ?_);dsimp only;rw[vp,vp];cases l with
 |none=>cases j<;>rfl
 |some c=>
  cases j with
  |none=>rfl
  |some b=>
   have p:=km (f c bo);have q:=km (g b bo);have w:=kC (f c bo);have A:=kC (g b bo);rw[gX,gX];by_cases h:b=0
   ·subst h;refine af (y:=.inr (9221120237041090560,())) ?_ bo;exact af (kZ (z:=cY 0) ab) rfl
   refine af (y:=.inl ((br,aV (cY c),c4 c,()),(br,aV (cY b),c4 b,()),())) ?_ ?_
   ·refine af (kZ (z:=cY b) aa) ?_;grind [k1,aC,ki]
   dsimp only;refine af (kZ (z:=cY c) aa) ?_;dsimp only;rw[k1];unfold oK;simp only;rw[cw h];by_cases e:c=0
   ·subst e;rw[aJ (show cY 0=0 from rfl)];rfl
   rw[aC (ki e),cw e,bR];have k:0<(cY c).natAbs:=(by grind [ki]);have m:0<(cY b).natAbs:=(by grind [ki]);refine af (Bx aa) (af (Bx aa) ?_);obtain⟨d,u,B,v⟩:=aeh k m p q;refine af v ?_;dsimp only;rw[cD (x:=c4 c-c4 b) aa aa,cD aa aa,Fv,Fv];have n:58<=aS ((cY c).natAbs*2^d/(cY b).natAbs):=Kv k m (by grind [qf]);have s:0<(cY c).natAbs*2^d/(cY b).natAbs:=by
    rcases sd ((cY c).natAbs*2^d/(cY b).natAbs) with i|i
    ·rw[i] at n;exact absurd n ab
    omega
   have t:aS ((cY c).natAbs*2^d/(cY b).natAbs)<=800000:=cu (l1 (amO _ _)) (by grind [CQ]);refine af (R9 t s aa aa (λ_=>by omega)) ?_;have r:=adk (pf:=a) e h u;dsimp only;rw[<-r];unfold tH;have o:c4 c-c4 b+-(d:Z)=hA c-hA b-d:=(by unfold c4;omega);rw[o];rfl
def ts (a:Z) (b:X):X:=((a %18446744073709551616) %(b:Z)).toNat
theorem Fo (a:Z) {n:X} (b:0<n):ts a n<n:=by simp_all [amI,zb,ts]
theorem A7 (a:Z) {n:X} (c:0<n) (e:n<=9223372036854775807):sH (a,(n:Z),())=Y ((ts a n:Z),()):=by unfold sH;have d:=Fo a c;have b:(a %18446744073709551616) %(n:Z)=(ts a n:Z):=(by unfold ts;have:=anT (a %18446744073709551616) (aa:(n:Z)≠0);omega);dsimp only;rw[B8 a,gT (x:=(n:Z)) aa aa,(Rz (x:=a %18446744073709551616) (y:=(n:Z)) ⟨aa,aa⟩ aa).2,b];grind [B3]
theorem agv (a b:Z):c9 (tW bE a b):=by grind [B5,tW,c9]
theorem Lx (e:aj0) (i:e.length<=9223372036854775807) (h:Z):ae (u6 (e,h,())) (λb=>c9 b.1):=by
 have f:∀a b:Z,0<=b->∃c,eJ bE a b=Y c:=λa b d=>(by unfold eJ;simp_all);unfold u6;dsimp only;refine ae.aN (P:=λ_=>True) ?_ ?_
 ·rw[cW];refine ae.ite (λd=>?_) λd=>bv.2 trivial;simp_all [ae.bs,A7,eR,bv,trivial,Fo,a5]
 rintro⟨a,_⟩ _;dsimp only;obtain⟨c,g⟩:=f a 31 ab;refine ae.bs g ?_;obtain⟨k,j⟩:=f (aY (tW bE a c*13787848793156543929)) 29 ab;grind [ae.bs,bv,agv]
theorem Sw (b:0<=a) (c:a<9223372036854775808):c9 (mM g a):=by grind [mM,c9]
theorem acK (b:bA) (a:Z):c9 (rE b a):=by grind [Sw,rE]
theorem acN (c:b<=9007199254740992) (d:-1074<=a):c9 (pj g b a e):=by grind [acK,Sw,pj]
theorem RY {c:Z} (d:0<b):c9 (mK k b a g c):=by have f:=Lq (neg:=k) (vO:=g) (pf:=c) (e:=a) d;grind [acN,mK,pj,eE,iL]
def JG:c9 9221120237041090560:=⟨ab,ab⟩
theorem wc (a:ajU) (c:Z):c9 (lu a c):=by
 unfold lu;cases a with
 |none=>exact JG
 |some d=>
  simp only;unfold yJ;by_cases b:d=0
  ·rw[ax b];exact⟨ab,ab⟩
  simp_all [aw,RY,ki]
theorem Bv (i:Z):c9 (oK j l i):=by
 unfold oK;cases j with
 |none=>exact JG
 |some a=>
  cases l with
  |none=>exact JG
  |some b=>
   simp only;by_cases c:b=0
   ·rw[ax c];exact⟨ab,ab⟩
   by_cases f:a=0
   ·rw[aw c,ax f];exact⟨ab,ab⟩
   rw[aw c,aw f];unfold Bw tH;have g:0<(cY a).natAbs:=(by grind [ki]);have h:0<(cY b).natAbs:=(by grind [ki]);have e:58<=aS ((cY a).natAbs*2^qf (cY a).natAbs (cY b).natAbs/(cY b).natAbs):=Kv g h (by grind [qf]);refine RY ?_;rcases sd ((cY a).natAbs*2^qf (cY a).natAbs (cY b).natAbs/(cY b).natAbs) with d|d
   ·rw[d] at e;exact absurd e ab
   omega
theorem Rb (a b:Z):c9 (gr bE a b):=by grind [B5,gr,c9]
theorem P8 (b:c9 a) (c:Z):ae (u4 (a,c,())) (λd=>c9 d.1):=by
 have e:=b.1;have f:=b.2;unfold u4;dsimp only;refine ae.bs (A7 c (n:=4) ab ab) ?_;dsimp only;rw[gh,gh,gh,cW];refine ae.ite (λ_=>?_) λ_=>?_
 ·grind [bv,Rb,tN,nV]
 rw[cW];refine ae.ite (λ_=>?_) λ_=>?_
 ·simp_all [bv,Rb,ax,aI,nV,tN,iR]
 rw[cW];refine ae.ite (λ_=>?_) λ_=>?_
 ·refine ae.bs (wa b) ?_;dsimp only;cases bu (cS a=2047)
  ·exact bv.2 b
  exact bv.2 ⟨ab,ab⟩
 unfold H1;refine ae.bs (y:=(lu (iz (a %19-9)) 0,())) ?_ (bv.2 ?_)
 ·refine af (y:=a %19) ?_ ?_
  ·simp_all [ax,GB,iR]
  dsimp only;rw[cD (x:=a %19) aa aa,cD aa aa];exact af (ad0 aa aa) rfl
 grind [wc]
structure gn (rows eH:X) (st h2 ni:aj0):Prop where
 len:st.length=eH+1
 first:st.getD 0 0=0
 mono:∀j,j<eH->st.getD j 0<=st.getD (j+1) 0
 last:st.getD eH 0=(h2.length:Z)
 val:ni.length=h2.length
 rng:∀j k:X,j<eH->st.getD j 0<=(k:Z)->(k:Z)<st.getD (j+1) 0->0<=h2.getD k 0/\h2.getD k 0<(rows:Z)
 asc:∀j k:X,j<eH->st.getD j 0<(k:Z)->(k:Z)<st.getD (j+1) 0->h2.getD (k-1) 0<h2.getD k 0
theorem fR {l:aj0} {i:X} (a:i<l.length):aj l (i:Z)=Y (l.getD i 0):=by rw[eR a,iY a]
theorem aeS (o:c.length<=1000000):DI (c,())=Y (open Classical in decide (∀a,a+1<c.length->c.getD a 0<=c.getD (a+1) 0),()):=by
 classical
 unfold DI;dsimp only;refine bN.1 (ae.aN (P:=λj=>match j with|.inl _=>(∀a,a+1<c.length->c.getD a 0<=c.getD (a+1) 0)|.inr k=>k=(br,())/\¬(∀a,a+1<c.length->c.getD a 0<=c.getD (a+1) 0)) ?_ ?_)
 ·refine aky (λe=>∃b:X,(e.1=(b:Z)\/(e.1=-1/\b=0))/\b<=c.length/\(b<c.length\/c.length=0)/\(∀a,b<=a->a+1<c.length->c.getD a 0<=c.getD (a+1) 0)) (λe=>e.1.toNat) ⟨c.length-1,?_,aa,aa,λa f h=>by omega⟩ ?_
  ·grind [cD,a5]
  rintro⟨l,_⟩ ⟨b,f,h,m,n⟩;dsimp only at f|-;rw[cW];refine ae.ite (λg=>?_) λg=>?_
  ·obtain rfl:l=(b:Z):=aa;obtain⟨d,rfl⟩:∃d,b=d+1:=⟨b-1,aa⟩;have ao:au (((d+1:X):Z)-1)=(d:Z):=(by grind [cD]);rw[ao];refine ae.bs (fR aa) (ae.bs (fR aa) ?_);refine ae.bs (y:=(bu (c.getD (d+1) 0<c.getD d 0),())) (by simp_all [bne_self_eq_false,bM,uR,su]) ?_;dsimp only;rw[cW];refine ae.ite (λi=>?_) λi=>?_
   ·grind [bv]
   grind [bv,cm]
  grind [bv]
 grind [aj8,bv,akw]
def kF (e:Z) (d b:aj0) (c:X):Prop:=∀a:X,d.getD c 0<=(a:Z)->(a:Z)<d.getD (c+1) 0->(if(a:Z)=d.getD c 0 then-1 else b.getD (a-1) 0)<b.getD a 0/\b.getD a 0<e
theorem kF.pos (h:kF a c f b) (i:0<=c.getD b 0):∀d:X,c.getD b 0<=(d:Z)->(d:Z)<c.getD (b+1) 0->0<=f.getD d 0:=by
 intro d
 induction d with
 |zero=>
  intro e g;have:=(h 0 e g).1;omega
 |succ d k=>
  intro e g;have j:=(h (d+1) e g).1;grind
theorem kF.rng (h:0<=c.getD b 0):kF a c f b↔(∀k:X,c.getD b 0<=(k:Z)->(k:Z)<c.getD (b+1) 0->0<=f.getD k 0/\f.getD k 0<a)/\(∀k:X,c.getD b 0<(k:Z)->(k:Z)<c.getD (b+1) 0->f.getD (k-1) 0<f.getD k 0):=by
 constructor
 ·intro g;refine⟨λk d e=>⟨g.pos h k d e,(g k d e).2⟩,λk d e=>?_⟩;have:=(g k aa e).1;omega
 rintro⟨d,e⟩ k i j;refine⟨?_,(d k i j).2⟩;split
 ·grind
 grind
theorem aeL {l:aj0} {lo hi t:X} (a:hi<=l.length) (b:lo+t<hi):((l.take hi).drop lo).length=hi-lo/\((l.take hi).drop lo)[t]?=Y (l.getD (lo+t) 0):=by grind
theorem aeM {l:aj0} {lo:X} (a:b<=l.length):((l.take b).drop lo).length=b-lo:=by grind
theorem gn.iff:gn d b c f h↔c.length=b+1/\c.getD 0 0=0/\(∀a,a<b->c.getD a 0<=c.getD (a+1) 0)/\c.getD b 0=(f.length:Z)/\h.length=f.length/\∀a,a<b->kF (d:Z) c f a:=by
 have o:(∀a,a<b->c.getD a 0<=c.getD (a+1) 0)->c.getD 0 0=0->∀a,a<=b->0<=c.getD a 0:=λr q a=>by
  induction a with
  |zero=>omega
  |succ a s=>grind
 constructor
 ·rintro⟨l,g,i,m,n,k,p⟩;exact⟨l,g,i,m,n,λa j=>(kF.rng (o i g a aa)).2 ⟨λe=>k a e j,λe=>p a e j⟩⟩
 rintro⟨l,g,i,m,n,k⟩;exact⟨l,g,i,m,n,λa e j=>((kF.rng (o i g a aa)).1 (k a j)).1 e,λa e j=>((kF.rng (o i g a aa)).1 (k a j)).2 e⟩
section
open Go.Proofs
def BW:bn (String×DataW bt):=[("math/bits.deBruijn32tab",Lib.tabData .u8 pT)]
def afe (b:Os) (a:ajR):laidMetH cn BW ((World.doorLaid cn 400 b).forCall (λ_ _=>0) ⟨#[],a,[]⟩).memory:=
 laidMetH_of_parts3 (fuel:=8) (laidMet_of_run' 8 (by kernel_rfl) (by kernel_rfl)) (by kernel_rfl) (by kernel_rfl)
def afd {b:bD} (c:laidMetH cn BW b):lA E (λr=>r<b.heap.size) b:=by
 rw[MakeChecks.laidMetH_plain _ _ _ (by kernel_rfl)] at c;have f:cn.globalNamed "math/bits.deBruijn32tab"=Y 0:=(by kernel_rfl);have j:=Lib.tabIs_of_head (g:=0) (t:=301) (e:=5) (n:=32) f (by kernel_rfl) (by kernel_rfl) (by kernel_rfl) (by kernel_rfl) (by kernel_rfl) c;intro q h;have h:q∈[(⟨0,301,.u8,pT⟩:uA)]:=h;obtain rfl:=fg.1 h;have s:0<b.heap.size:=by
  have d:=j.cell f 0 ab;unfold ak6 at d;split at d
  ·rename_i x w y v;exact(rV.1 v).1
  cases d
 refine⟨bo,_,_,bo,bd _,(λc=>by cases c),.inr ⟨0,0,bo,s,λa p i=>?_⟩⟩;obtain⟨l,i⟩:=hN.1 i;refine⟨[.int .u8 p],bo,λo z m=>?_,bo,bo⟩;have k:=j.cell f a l;have u:(pT.getD a 0:Z)=p:=(by rw[iY l];exact i);rw[u] at k;cases o with
 |zero=>
  obtain rfl:=gb m;have:(⟨0,0+a*akm (.int .u8)+0,bq⟩:Addr)=⟨0,a,bq⟩:=(by show(⟨0,0+a*1+0,bq⟩:Addr)=_;congr 1;omega);rw[this];exact k
 |succ o=>cases m
end
section
theorem VN (a0:d<=200) (an:b<=200) (H:c.length<=10000) (Q:f.length<=1000000) (a3:h.length<=1000000):Dz (((d:Z),(b:Z),f,c,h,()),())=Y (open Classical in decide (gn d b f c h),()):=by
 classical
 unfold Dz;refine bN.1 ?_;dsimp only;have O:aH (b:Z)=((b+1:X):Z):=ba aa;have am:∀(j:¬gn d b f c h),(br,())=(bu (gn d b f c h),()):=λj=>(by rw[akw j]);refine ae.aN (P:=λm=>match m with
  |.inl _=>f.length=b+1/\f.getD 0 0=0/\(∀a,a<b->f.getD a 0<=f.getD (a+1) 0)/\f.getD b 0=(c.length:Z)/\h.length=c.length
  |.inr o=>o=(br,())/\¬gn d b f c h) ?_ ?_
 ·rw[O,fq];by_cases A:f.length=b+1
  ·rw[aJ (show ak f=((b+1:X):Z) by grind)];refine ae.bs (y:=f.getD 0 0) (fR (i:=0) aa) ?_;rw[fq];by_cases q:f.getD 0 0=0
   ·rw[aJ q];refine ae.bs (aeS Q) ?_;dsimp only;by_cases r:∀p,p+1<f.length->f.getD p 0<=f.getD (p+1) 0
    ·rw[aj8 r];refine ae.bs (y:=f.getD b 0) (fR aa) ?_;rw[fq];by_cases s:f.getD b 0=(c.length:Z)
     ·rw[aJ (show f.getD b 0=ak c from s),fq];by_cases B:c.length=h.length
      ·grind [bv,aJ,a5]
      rw[aC (show¬ak c=ak h by grind)];exact bv.2 ⟨bo,λj=>B j.val.symm⟩
     rw[aC (show¬f.getD b 0=ak c from s)];exact bv.2 ⟨bo,λj=>s j.last⟩
    rw[akw r];exact bv.2 ⟨bo,λj=>r λp H=>j.mono p aa⟩
   rw[aC q];exact bv.2 ⟨bo,λj=>q j.first⟩
  rw[aC (show¬ak f=((b+1:X):Z) by grind)];exact bv.2 ⟨bo,λj=>A j.len⟩
 rintro(m|m) w
 rotate_left
 ·grind [bv]
 obtain⟨A,q,r,s,B⟩:f.length=b+1/\f.getD 0 0=0/\(∀a,a<b->f.getD a 0<=f.getD (a+1) 0)/\f.getD b 0=(c.length:Z)/\h.length=c.length:=w;have F:∀a,a<=b->0<=f.getD a 0:=λa=>by
  induction a with
  |zero=>omega
  |succ a R=>grind
 have w:∀u a,a+u=b->f.getD a 0<=(c.length:Z):=λu=>by
  induction u with
  |zero=>grind
  |succ u R=>grind
 dsimp only;refine ae.aN (P:=λm=>match m with
  |.inl _=>(∀a,a<b->kF (d:Z) f c a)
  |.inr o=>o=(br,())/\¬(∀a,a<b->kF (d:Z) f c a)) ?_ ?_
 ·refine ae.steps b (λp x=>x=((p:Z),())/\∀a,a<p->kF (d:Z) f c a) ⟨bo,λa L=>by omega⟩ ?_ ?_
  ·rintro a _ L ⟨rfl,C⟩;dsimp only;rw[aQ (aJ (aa:(a:Z)<(b:Z))),ba aa];obtain⟨e,N⟩:=cz (F a aa);obtain⟨n,K⟩:=cz (F (a+1) aa);have E:n<=c.length:=(by have:=w (b-(a+1)) (a+1) aa;omega);have av:e<=n:=(by grind);refine ae.bs (y:=(e:Z)) (by rw[fR aa,N]) (ae.bs (y:=(n:Z)) (by rw[fR aa,K]) (ae.bs (y:=(e,n)) (by grind [yx,rv]) ?_));dsimp only;have ap:=aeM (l:=c) (lo:=e) E;refine ae.aN (P:=λm=>match m with
    |.inl _=>kF (d:Z) f c a
    |.inr o=>o=.inr (.inr (br,()))/\¬kF (d:Z) f c a) ?_ ?_
   ·refine ae.steps (n-e) (λg x=>x=((if g=0 then-1 else c.getD (e+g-1) 0),(g:Z),())/\∀k:X,e<=k->k<e+g->(if(k:Z)=f.getD a 0 then-1 else c.getD (k-1) 0)<c.getD k 0/\c.getD k 0<(d:Z)) ⟨bo,λk C D=>by omega⟩ ?_ ?_
    ·rintro g _ a1 ⟨rfl,D⟩;have J:=(aeL (l:=c) (lo:=e) (hi:=n) (t:=g) E aa).2;have M:(if g=0 then-1 else c.getD (e+g-1) 0)=(if((e+g:X):Z)=f.getD a 0 then-1 else c.getD (e+g-1) 0):=by
      omega
     dsimp only;rw[aQ (aJ (show(g:Z)<ak ((c.take n).drop e) by grind)),M];refine ae.aN (P:=λm=>match m with
      |.inl o=>o=(c.getD (e+g) 0,())/\((if((e+g:X):Z)=f.getD a 0 then-1 else c.getD (e+g-1) 0)<c.getD (e+g) 0/\c.getD (e+g) 0<(d:Z))
      |.inr o=>o=.inr (.inr (.inr (.inr (br,()))))/\¬((if((e+g:X):Z)=f.getD a 0 then-1 else c.getD (e+g-1) 0)<c.getD (e+g) 0/\c.getD (e+g) 0<(d:Z))) ?_ ?_
     ·refine ae.bs (y:=c.getD (e+g) 0) (fu J) ?_;generalize(if((e+g:X):Z)=f.getD a 0 then-1 else c.getD (e+g-1) 0)=V;generalize c.getD (e+g) 0=z;by_cases I:z<=V
      ·grind [bv,aJ]
      rw[aC I];by_cases ad:z>=(d:Z)
      ·grind [bv,aJ]
      grind [aC,bv]
     rintro(m|m) G
     ·obtain⟨rfl,v⟩:=G;refine bv.2 ⟨?_,?_⟩
      ·rw[ba aa,aw aa];rfl
      intro k S T;rcases cR k (e+g) with U|U
      ·grind
      obtain rfl:k=e+g:=aa;exact v
     obtain⟨rfl,v⟩:=G;refine bv.2 ⟨bo,λj=>v ?_⟩;exact j (e+g) aa aa
    rintro _ ⟨rfl,D⟩;dsimp only;rw[aM (aC (show¬(((n-e:X):Z)<ak ((c.take n).drop e)) by grind))];refine bv.2 ?_;intro k S T;simp_all
   grind [bv,cm]
  rintro _ ⟨rfl,C⟩;simp_all [bv,aM,aC]
 grind [bv,aj8,gn.iff]
def n0 (b:aj0):Prop:=∀a,a<b.length->cS (b.getD a 0)≠2047
open Classical in
def fQ (d b:X) (e c a:aj0):Z:=if gn d b e c a then if n0 a then 0 else 4 else 1
theorem L9.getD {a:aj0} (e:∀d∈a,c9 d) (c:X):c9 (a.getD c 0):=by
 rcases cR c a.length with b|b
 ·grind
 rw[pa b];exact⟨ab,ab⟩
theorem Zz (j:∀m∈c,c9 m) (o:c.length<=1000000):DC (c,(),())=Y (open Classical in decide (¬n0 c),()):=by
 classical
 unfold DC;refine bN.1 ?_;refine ae.aN (P:=λd=>∃e,d=(e,())/\(0<=e↔¬n0 c)) ?_ ?_
 ·unfold HS;dsimp only;refine ae.aN (P:=λk=>match k with|.inl _=>n0 c|.inr d=>0<=d.1/\¬n0 c) ?_ ?_
  ·refine ae.steps c.length (λa l=>l=((a:Z),())/\∀b,b<a->cS (c.getD b 0)≠2047) ⟨bo,λb n=>by omega⟩ ?_ ?_
   ·rintro a _ h ⟨rfl,g⟩;dsimp only;rw[aQ (aJ (show(a:Z)<ak c by grind))];refine ae.bs (fR h) ?_;unfold HQ;refine ae.bs (y:=(bu (cS (c.getD a 0)=2047),())) (af (E1 (L9.getD j a)) (by grind)) ?_;dsimp only;rw[cW];refine ae.ite (λf=>?_) λf=>?_
    ·exact bv.2 ⟨aa,λi=>i a h f⟩
    grind [bv,ba,cm]
   rintro _ ⟨rfl,g⟩;dsimp only;rw[aM (aC (show¬((c.length:Z)<ak c) by grind))];exact bv.2 g
  grind [bv]
 rintro _ ⟨e,rfl,p⟩;refine bv.2 ?_;grind
theorem YW (j:d<=200) (g:b<=200) (i:f.length<=10000) (k:h.length<=1000000) (e:c.length<=1000000) (l:∀m∈c,c9 m):sG (((d:Z),(b:Z),h,f,c,()),())=Y (fQ d b h f c,()):=by
 classical
 unfold sG fQ;dsimp only;refine af (y:=(br,())) ?_ ?_
 ·unfold DB;grind
 dsimp only;rw[bR];refine af (VN j g i k e) ?_;dsimp only;by_cases a:gn d b h f c
 ·rw[aj8 a,ax a];refine af (Zz l e) ?_;grind
 grind
end
theorem ad1 (h:∀l∈c,c9 l) (n:c.length<=1000000):D7 (c,())=Y (open Classical in decide (n0 c),()):=by
 classical
 unfold D7;refine bN.1 ?_;dsimp only;refine ae.aN (P:=λi=>match i with|.inl _=>n0 c|.inr j=>j=(br,())/\¬n0 c) ?_ ?_
 ·refine ae.steps c.length (λa k=>k=((a:Z),())/\∀b,b<a->cS (c.getD b 0)≠2047) ⟨bo,λb m=>by omega⟩ ?_ ?_
  ·rintro a _ f ⟨rfl,e⟩;dsimp only;rw[aQ (aJ (show(a:Z)<ak c by grind))];refine ae.bs (fR f) (ae.bs (wa (L9.getD h a)) ?_);dsimp only;rw[Bool.not_not,cW];refine ae.ite (λd=>?_) λd=>?_
   ·exact bv.2 ⟨bo,λg=>g a f d⟩
   grind [bv,ba,cm]
  rintro _ ⟨rfl,e⟩;dsimp only;rw[aM (aC (show¬((c.length:Z)<ak c) by grind))];exact bv.2 e
 grind [aj8,bv,akw]
theorem adD (a4:d<=200) (an:b<=200) (ap:f.length<=10000) (bl:c.length<=1000000) (R:h.length<=1000000) (S:∀ad∈h,c9 ad):q1 (((d:Z),(b:Z),c,f,h,()),())=Y (fQ d b c f h,()):=by
 classical
 unfold q1;refine bN.1 ?_;dsimp only;have Q:aH (b:Z)=((b+1:X):Z):=ba aa;have am:∀(l:¬gn d b c f h),((1:Z),())=(fQ d b c f h,()):=λl=>(by unfold fQ;grind);refine ae.bs (y:=.inl ()) ?_ ?_
 ·grind
 dsimp only;refine ae.aN (P:=λk=>match k with
  |.inl _=>c.length=b+1/\c.getD 0 0=0/\c.getD b 0=(f.length:Z)/\h.length=f.length
  |.inr m=>m=((1:Z),())/\¬gn d b c f h) ?_ ?_
 ·rw[Q,fq,fq];by_cases B:h.length=f.length
  ·rw[aJ (show ak h=ak f by grind)];by_cases A:c.length=b+1
   ·rw[aJ (show ak c=((b+1:X):Z) by grind)];refine ae.bs (y:=c.getD 0 0) (fR (i:=0) aa) ?_;rw[fq];by_cases q:c.getD 0 0=0
    ·rw[aJ q];refine ae.bs (y:=c.getD b 0) (fR aa) ?_;rw[fq];by_cases u:c.getD b 0=(f.length:Z)
     ·grind [bv,aJ]
     rw[aC (show¬c.getD b 0=ak f from u)];exact bv.2 ⟨bo,λl=>u l.last⟩
    rw[aC q];exact bv.2 ⟨bo,λl=>q l.first⟩
   rw[aC (show¬ak c=((b+1:X):Z) by grind)];exact bv.2 ⟨bo,λl=>A l.len⟩
  rw[aC (show¬ak h=ak f by grind)];exact bv.2 ⟨bo,λl=>B l.val⟩
 rintro(k|k) r
 rotate_left
 ·grind [bv]
 obtain⟨A,q,u,B⟩:c.length=b+1/\c.getD 0 0=0/\c.getD b 0=(f.length:Z)/\h.length=f.length:=r;dsimp only;refine ae.aN (P:=λk=>match k with
  |.inl _=>(∀a,a<b->c.getD a 0<=c.getD (a+1) 0)
  |.inr m=>m=((1:Z),())/\¬gn d b c f h) ?_ ?_
 ·refine ae.steps b (λp t=>t=((p:Z),())/\∀a,a<p->c.getD a 0<=c.getD (a+1) 0) ⟨bo,λa z=>by omega⟩ ?_ ?_
  ·rintro a _ z ⟨rfl,x⟩;dsimp only;rw[aQ (aJ (aa:(a:Z)<(b:Z))),ba aa];refine ae.bs (fR aa) (ae.bs (fR aa) ?_);rw[cW];refine ae.ite (λw=>?_) λw=>?_
   ·exact bv.2 ⟨bo,λl=>by have:=l.mono a z;omega⟩
   grind [bv,cm]
  rintro _ ⟨rfl,x⟩;simp_all [bv,aM,aC]
 rintro(k|k) r
 rotate_left
 ·grind [bv]
 have M:∀a,a<b->c.getD a 0<=c.getD (a+1) 0:=r;have J:∀a,a<=b->0<=c.getD a 0:=λa=>by
  induction a with
  |zero=>omega
  |succ a K=>grind
 have r:∀v a,a+v=b->c.getD a 0<=(f.length:Z):=λv=>by
  induction v with
  |zero=>grind
  |succ v K=>grind
 dsimp only;refine ae.aN (P:=λk=>match k with
  |.inl _=>(∀a,a<b->kF (d:Z) c f a)
  |.inr m=>m=((1:Z),())/\¬(∀a,a<b->kF (d:Z) c f a)) ?_ ?_
 ·refine ae.steps b (λp t=>t=((p:Z),())/\∀a,a<p->kF (d:Z) c f a) ⟨bo,λa z=>by omega⟩ ?_ ?_
  ·rintro a _ z ⟨rfl,x⟩;dsimp only;rw[aQ (aJ (aa:(a:Z)<(b:Z))),ba aa];obtain⟨e,a1⟩:=cz (J a aa);obtain⟨o,O⟩:=cz (J (a+1) aa);have av:o<=f.length:=(by have:=r (b-(a+1)) (a+1) aa;omega);have a0:e<=o:=(by grind);have G:aj c (a:Z)=Y (e:Z):=(by grind [fR]);have H:aj c ((a+1:X):Z)=Y (o:Z):=(by rw[fR aa,O]);refine ae.bs G ?_;refine ae.aN (P:=λk=>match k with
    |.inl _=>kF (d:Z) c f a
    |.inr m=>m=.inr (.inr ((1:Z),()))/\¬kF (d:Z) c f a) ?_ ?_
   ·refine ae.steps (o-e) (λg t=>t=(((e+g:X):Z),())/\∀j:X,e<=j->j<e+g->(if(j:Z)=c.getD a 0 then-1 else f.getD (j-1) 0)<f.getD j 0/\f.getD j 0<(d:Z)) ⟨bo,λj x n=>by omega⟩ ?_ ?_
    ·rintro g _ bx ⟨rfl,n⟩;dsimp only;refine ae.bs H ?_;rw[aQ (aJ (aa:((e+g:X):Z)<(o:Z)))];have C:aj f ((e+g:X):Z)=Y (f.getD (e+g) 0):=fR aa;have a3:g≠0->0<=f.getD (e+g-1) 0:=λV=>by
      have U:∀j:X,e<=j->j<e+g->0<=f.getD j 0:=by
       intro j
       induction j with
       |zero=>
        grind
       |succ j K=>
        intro D E;have I:=(n (j+1) D E).1;by_cases w:((j+1:X):Z)=c.getD a 0
        ·omega
        grind
      exact U _ aa aa
     refine ae.aN (P:=λk=>match k with
      |.inl _=>((if((e+g:X):Z)=c.getD a 0 then-1 else f.getD (e+g-1) 0)<f.getD (e+g) 0/\f.getD (e+g) 0<(d:Z))
      |.inr m=>m=.inr (.inr (.inr (.inr ((1:Z),()))))/\¬((if((e+g:X):Z)=c.getD a 0 then-1 else f.getD (e+g-1) 0)<f.getD (e+g) 0/\f.getD (e+g) 0<(d:Z))) ?_ ?_
     ·refine ae.bs C ?_;by_cases F:f.getD (e+g) 0<0
      ·rw[aJ F];refine bv.2 ⟨bo,λl=>?_⟩;omega
      rw[aC F];refine ae.bs C ?_;by_cases L:f.getD (e+g) 0>=(d:Z)
      ·grind [bv,aJ]
      rw[aC L];refine ae.bs G ?_;by_cases V:g=0
      ·rw[aC (aa:¬((e+g:X):Z)>(e:Z))];refine bv.2 ⟨?_,aa⟩;omega
      rw[aJ (aa:((e+g:X):Z)>(e:Z))];have ao:au (((e+g:X):Z)-1)=((e+g-1:X):Z):=(by rw[cD aa aa];omega);refine ae.bs C (ae.bs (y:=f.getD (e+g-1) 0) (by rw[ao];exact fR aa) ?_);rw[cW];refine ae.ite (λw=>?_) λw=>?_
      ·refine bv.2 ⟨bo,λl=>?_⟩;omega
      refine bv.2 ⟨?_,aa⟩;omega
     rintro(k|k) s
     ·refine bv.2 ⟨by rw[ba aa];rfl,?_⟩;intro j D E;rcases cR j (e+g) with T|T
      ·grind
      obtain rfl:j=e+g:=aa;omega
     obtain⟨rfl,I⟩:=s;exact bv.2 ⟨bo,λl=>I (l (e+g) aa aa)⟩
    rintro _ ⟨rfl,n⟩;dsimp only;refine ae.bs H ?_;rw[aM (aC (aa:¬(((e+(o-e):X):Z)<(o:Z))))];refine bv.2 ?_;intro j D E;simp_all
   grind [bv,cm]
  rintro _ ⟨rfl,x⟩;simp_all [bv,aM,aC]
 rintro(k|k) s
 ·have s:(∀a,a<b->kF (d:Z) c f a):=s;have N:gn d b c f h:=gn.iff.2 ⟨A,q,M,u,B,s⟩;refine ae.bs (ad1 S R) ?_;unfold fQ;rw[ax N];by_cases n:n0 h
  ·rw[aj8 n,ax n];grind [bv]
  rw[akw n,aw n];grind [bv]
 grind [bv,gn.iff]
abbrev cT:=Z×Z×Z×bt
variable{p:bn cT}
def iW (b d:aj0) (c:Z) (a:X):X->bn cT
 |0=>[]
 |n+1=>iW b d c a n++[(b.getD (a+n) 0,c,d.getD (a+n) 0,())]
def c3 (a b c:aj0):X->bn cT
 |0=>[]
 |j+1=>c3 a b c j++iW b c (j:Z) (a.getD j 0).toNat ((a.getD (j+1) 0).toNat-(a.getD j 0).toNat)
theorem N1 (c f:aj0) (d:Z) (e a:X):(iW c f d e a).length=a:=by
 induction a with
 |zero=>rfl
 |succ a b=>simp[iW,b]
def gn.pos (e:gn d b c f h):∀a,a<=b->0<=c.getD a 0:=λa=>by
 have:=e.first
 induction a with
 |zero=>omega
 |succ a g=>intro i;have:=g aa;have:=e.mono a aa;omega
theorem gn.qa (g:gn d b f c h):∀a,a<=b->f.getD a 0<=(c.length:Z):=by
 have k:∀e a,a+e=b->f.getD a 0<=(c.length:Z):=λe=>by
  have:=g.last
  induction e with
  |zero=>grind
  |succ e j=>intro a i;have:=j (a+1) aa;have:=g.mono a aa;omega
 exactλa i=>k (b-a) a aa
theorem AH (e:gn d b c f h):∀a,a<=b->(c3 c f h a).length=(c.getD a 0).toNat:=λa=>by
 induction a with
 |zero=>intro _;have:=e.first;show 0=(c.getD 0 0).toNat;omega
 |succ a g=>
  intro k;have i:=g aa;have j:=e.mono a aa;grind [akE,N1,c3]
theorem Io (e:gn d b h c f) (p:b<=200) (r:c.length<=10000):xE (((d:Z),(b:Z),h,c,f,()),())=Y (c3 h c f b,()):=by
 unfold xE;refine bN.1 ?_;dsimp only;refine ae.aN (P:=λk=>k=(c3 h c f b,())) ?_ (by grind [bv]);refine ae.steps b (λa l=>l=((a:Z),c3 h c f a,())) rfl ?_ ?_
 ·rintro a _ n rfl;have s:=e.len;obtain⟨i,o⟩:=cz (e.pos a aa);obtain⟨g,m⟩:=cz (e.pos (a+1) aa);have t:g<=c.length:=(by have:=e.qa (a+1) aa;omega);have u:i<=g:=(by have:=e.mono a n;omega);have q:=AH e a aa;have w:=e.val;dsimp only;rw[aQ (aJ (aa:(a:Z)<(b:Z))),ba aa];refine ae.bs (y:=(i:Z)) (by rw[fR aa,o]) ?_;refine ae.aN (P:=λk=>k=(c3 h c f (a+1),())) ?_ (by grind [bv]);refine ae.steps (g-i) (λj l=>l=(((i+j:X):Z),c3 h c f a++iW c f (a:Z) i j,())) (by simp[iW]) ?_ ?_
  ·rintro j _ v rfl;dsimp only;refine ae.bs (y:=(g:Z)) (by rw[fR aa,m]) ?_;rw[aQ (aJ (aa:((i+j:X):Z)<(g:Z)))];refine ae.bs (fR aa) (ae.bs (fR aa) ?_);rw[eC (by grind [N1])];refine bv.2 ?_;rw[ba aa,akZ];rfl
  rintro _ rfl;dsimp only;refine ae.bs (y:=(g:Z)) (by rw[fR aa,m]) ?_;simp_all [bv,aM,aC,c3,iW]
 rintro _ rfl;dsimp only;rw[aM (aC (aa:¬((b:Z)<(b:Z))))];grind [bv]
structure g4 (rows eH:X) (st h2 ni:aj0):Prop where
 hr:rows<=200
 hc:eH<=200
 hi:h2.length<=10000
 hs:st.length<=1000000
 hv:ni.length<=1000000
 hw:∀v∈ni,c9 v
def g4.check (a:g4 d b f c h):sG (((d:Z),(b:Z),f,c,h,()),())=Y (fQ d b f c h,()):=YW a.hr a.hc a.hi a.hs a.hv a.hw
def g4.vZ (a:g4 d b f c h):q1 (((d:Z),(b:Z),f,c,h,()),())=Y (fQ d b f c h,()):=adD a.hr a.hc a.hi a.hs a.hv a.hw
theorem jU:fQ d b h f c=0↔gn d b h f c/\n0 c:=by unfold fQ;grind
def TG (a:g4 d b f c h) (e:fQ d b f c h=0):Dw (((d:Z),(b:Z),f,c,h,()),())=Y (c3 f c h b,()):=by unfold Dw;refine af a.check ?_;dsimp only;rw[e,fq,aJ bo];exact af (Io (jU.1 e).1 a.hc a.hi) rfl
theorem RF (a:g4 d b f c h) (i:fQ d b f c h=0):Am (((d:Z),(b:Z),f,c,h,()),())=Y (c3 f c h b,()):=by have e:=(jU.1 i).1;have g:=Io e a.hc a.hi;unfold xE at g;unfold Am;refine af a.vZ ?_;grind
def hj (a b:cT):Prop:=a.2.1<b.2.1\/(a.2.1=b.2.1/\a.1<b.1)
def vM {i:cT}:i∈iW c f a d b↔∃e,e<b/\i=(c.getD (d+e) 0,a,f.getD (d+e) 0,()):=by
 induction b with
 |zero=>simp[iW]
 |succ b l=>
  simp only[iW,ha,l,fg];constructor
  ·rintro(⟨e,k,g⟩|j)
   ·exact⟨e,aa,g⟩
   exact⟨b,aa,j⟩
  rintro⟨e,k,g⟩;rcases cR e b with h|h
  ·exact .inl ⟨e,h,g⟩
  obtain rfl:e=b:=aa;exact .inr g
def Ww (h:∀g e,g<e->e<b->c.getD (d+g) 0<c.getD (d+e) 0):(iW c f a d b).Pairwise hj:=by
 induction b with
 |zero=>exact amm
 |succ b m=>
  refine ao4.2 ⟨m λg e i p=>h g e i aa,List.pairwise_singleton _ _,?_⟩;intro n j o k;obtain⟨e,l,rfl⟩:=vM.1 j;rw[fg.1 k];exact .inr ⟨bo,h e b l aa⟩
def A4 {g:cT}:g∈c3 c f h b↔∃a,a<b/\g∈iW f h (a:Z) (c.getD a 0).toNat ((c.getD (a+1) 0).toNat-(c.getD a 0).toNat):=by
 induction b with
 |zero=>simp[c3]
 |succ b k=>
  simp only[c3,ha,k];constructor
  ·rintro(⟨a,j,d⟩|i)
   ·exact⟨a,aa,d⟩
   exact⟨b,aa,i⟩
  rintro⟨a,j,d⟩;rcases cR a b with e|e
  ·exact .inl ⟨a,e,d⟩
  obtain rfl:a=b:=aa;exact .inr d
def rf (k:gn d b c f h):∀a,a<=b->(c3 c f h a).Pairwise hj:=by
 intro a
 induction a with
 |zero=>intro _;exact amm
 |succ a q=>
  intro p;have C:=k.pos a aa;have D:=k.pos (a+1) p;refine ao4.2 ⟨q aa,Ww ?_,?_⟩
  ·intro g i v w;have s:∀e,g+e<(c.getD (a+1) 0).toNat-(c.getD a 0).toNat->0<e->f.getD ((c.getD a 0).toNat+g) 0<f.getD ((c.getD a 0).toNat+(g+e)) 0:=by
    intro e
    induction e with
    |zero=>intro _ y;omega
    |succ e r=>
     intro x _;have m:=k.asc a ((c.getD a 0).toNat+(g+(e+1))) aa aa aa;rw[(aa:(c.getD a 0).toNat+(g+(e+1))-1=(c.getD a 0).toNat+(g+e))] at m;rcases sd e with j|j
     ·subst j;exact m
     have:=r aa j;omega
   have:=s (i-g) aa aa;rwa[(aa:g+(i-g)=i)] at this
  intro t l u o;obtain⟨n,z,l⟩:=A4.1 l;obtain⟨i,A,rfl⟩:=vM.1 l;obtain⟨E,B,rfl⟩:=vM.1 o;exact .inl (by show(n:Z)<(a:Z);omega)
def acE (a b:Z):CZ ([a,b],())=Y (if a≠0 then a else b,()):=by
 unfold CZ;refine bN.1 ?_;dsimp only;refine ae.aN (P:=λf=>match f with|.inl _=>a=0/\b=0|.inr k=>k=(if a≠0 then a else b,())) ?_ ?_
 ·refine ae.steps 2 (λd l=>l=((d:Z),())/\(1<=d->a=0)/\(2<=d->b=0)) ⟨bo,λh=>by omega,λh=>by omega⟩ ?_ ?_
  ·rintro d _ m ⟨rfl,g,i⟩;rcases(aa:d=0\/d=1) with rfl|rfl
   ·show ae (bif a !=0 then _ else _) _;rw[fq];by_cases c:a=0
    ·rw[aJ c];exact bv.2 ⟨bo,λ_=>c,λh=>by omega⟩
    rw[aC c];refine bv.2 ?_;rw[ax c]
   show ae (bif b !=0 then _ else _) _;have j:=g ab;rw[fq];by_cases c:b=0
   ·rw[aJ c];exact bv.2 ⟨bo,λ_=>j,λ_=>c⟩
   rw[aC c];refine bv.2 ?_;rw[aw (by simpa using j)]
  rintro _ ⟨rfl,g,i⟩;exact bv.2 ⟨g ab,i ab⟩
 rintro(f|f) e
 ·obtain⟨rfl,rfl⟩:a=0/\b=0:=e;exact bv.2 bo
 have e:f=_:=e;rw[e];exact bv.2 bo
def NS {a b:cT} (c:hj a b):xF (b,a,())=Y (1,()):=by
 unfold xF;refine af (HC _ _) (af (HC _ _) (af (acE _ _) ?_));dsimp only;congr 2;unfold fI;rcases c with c|⟨e,d⟩
 ·rw[aw (aa:¬b.2.1<a.2.1),ax c];rfl
 rw[aw (aa:¬b.2.1<a.2.1),aw (aa:¬a.2.1<b.2.1),aw ac,aw (aa:¬b.1<a.1),ax d]
def IZ (i:p.length<=1000) (e:p.Pairwise hj) {lo hi:X} (f:lo<=hi) (g:hi<=p.length):Aa (p,(lo:Z),(hi:Z),(),())=Y (p,()):=by
 unfold Aa;refine bN.1 ?_;dsimp only;refine ae.aN (P:=λc=>c=(p,())) ?_ (by rintro _ rfl;exact bv.2 bo);refine ae.steps (hi-lo-1) (λa b=>b=(((lo+1+a:X):Z),p,())) (by rw[ba aa]) ?_ ?_
 ·rintro a _ h rfl;dsimp only;rw[aQ (aJ (aa:((lo+1+a:X):Z)<(hi:Z)))];refine ae.aN (P:=λc=>c=(p,())) ?_ (by rintro _ rfl;refine bv.2 ?_;dsimp only;rw[ba aa];rfl);refine ae.steps 0 (λ_ b=>b=(((lo+1+a:X):Z),p,())) rfl (λa b hi=>by omega) ?_;rintro _ rfl;dsimp only;refine ae.bs (y:=.inr (.inr (p,()))) ?_ (bv.2 bo);rw[aJ (aa:((lo+1+a:X):Z)>(lo:Z))];have ao:au (((lo+1+a:X):Z)-1)=((lo+a:X):Z):=(by rw[cD aa aa];omega);rw[aks,bH,jq aa,ao,jq aa];have d:hj p[lo+a] p[lo+1+a]:=aj2.1 e _ _ aa aa aa;exact af (NS d) rfl
 rintro _ rfl;dsimp only;rw[aM (aC (aa:¬((lo+1+(hi-lo-1):X):Z)<(hi:Z)))];exact bv.2 bo
def afa (u:p.length=21) (m:p.Pairwise hj):DN (p,0,20,21,(),())=Y (p,()):=by
 unfold DN;refine bN.1 ?_;dsimp only;rw[aM ab,aQ ab];refine ae.aN (P:=λh=>h=(20,p,())) ?_ ?_
 ·refine ae.steps 4 (λd g=>g=((([0,11,16,19,20]:ajZ).getD d 0:Z),20,p,())) rfl ?_ ?_
  ·rintro d _ v rfl;have f:∀c a:X,c<20->a<20->eJ bE (aY (au ((c:Z)+20))) 1=Y (a:Z)->au (a:Z)=(a:Z)->aH (a:Z)=((a+1:X):Z)->
    ae (
     bif bu ((c:Z)<20) then(eJ bE (aY (au ((c:Z)+20))) 1).bind λi=>
     rd p 20 λo=>rd p (au i) λq=>(xF (o,q,())).bind λ(n,_)=>
      (bif !(bu (n<0)) then Y (.inl (aH (au i),20,p,())) else bq) else Y (.inr ((c:Z),p,())))
     (λe=>e=Sum.inl (((a+1:X):Z),(20:Z),p,())):=by
    intro c a r s j k l;rw[aQ (aJ aa),j,bM,k,show(20:Z)=((20:X):Z) from rfl,jq aa,jq aa];refine ae.bs (NS (aj2.1 m _ _ aa aa aa)) ?_;dsimp only;rw[aQ ab,l];exact bv.2 bo
   rcases(by omega:d=0\/d=1\/d=2\/d=3) with rfl|rfl|rfl|rfl
   ·exact(f 0 10 ab ab ab ab ab).mono λe b=>by rw[b];rfl
   ·exact(f 11 15 ab ab ab ab ab).mono λe b=>by rw[b];rfl
   ·exact(f 16 18 ab ab ab ab ab).mono λe b=>by rw[b];rfl
   exact(f 19 19 ab ab ab ab ab).mono λe b=>by rw[b];rfl
  rintro _ rfl;exact bv.2 bo
 rintro _ rfl;dsimp only;refine ae.aN (P:=λh=>h=(p,())) ?_ (by rintro _ rfl;exact bv.2 bo);refine ae.steps 0 (λ_ g=>g=(20,p,())) rfl (λw g t=>by omega) ?_;rintro _ rfl;exact bv.2 bo
def aeO (l:p.length<=21) (d:p.Pairwise hj):DA (p,())=Y (p,()):=by
 unfold DA;refine af (y:=(p,())) ?_ ?_
 ·unfold HR;have f:((bh (([]:bn cT).length+p.length)).bind λ_=>Y (([]++p:bn cT),()))=Y (p,()):=by
   rw[eC (by simp;omega)];rfl
  show rB p.length (Y ([],())) ((bh (([]:bn cT).length+p.length)).bind λ_=>Y (([]++p:bn cT),()))=_;unfold rB;rw[f];split
  ·rename_i h;obtain rfl:=r7 h;rw[ax bo]
  rfl
 refine af (y:=(p,())) ?_ bo;unfold HX;refine af (y:=(p,())) ?_ bo;unfold H0;refine bN.1 ?_;dsimp only;by_cases j:p.length<20
 ·refine ae.aN (P:=λb=>b=(0,p,())) ?_ ?_
  ·refine ae.steps 0 (λ_ a=>a=(0,20,p,())) rfl (λg a e=>by omega) ?_;rintro _ rfl;dsimp only;rw[aM (aC (show¬((20:Z)<=ak p) by simp only[a5];omega))];exact bv.2 bo
  rintro _ rfl;refine ae.bs (IZ (lo:=0) aa d (ao5 _) (cd _)) ?_;refine ae.aN (P:=λb=>b=(p,())) ?_ (by rintro _ rfl;exact bv.2 bo);refine ae.steps 0 (λ_ a=>a=(20,p,())) rfl (λg a e=>by omega) ?_;rintro _ rfl;dsimp only;rw[aM (aC (show¬((20:Z)<ak p) by simp only[a5];omega))];exact bv.2 bo
 refine ae.aN (P:=λb=>b=(20,p,())) ?_ ?_
 ·refine ae.steps 1 (λc a=>a=((20*(c:Z)),20+20*(c:Z),p,())) rfl ?_ ?_
  ·rintro c _ i rfl;obtain rfl:c=0:=aa;dsimp only;rw[aQ (aJ (show(20:Z)+20*((0:X):Z)<=ak p by simp only[a5];omega))];refine ae.bs (IZ (lo:=0) (hi:=20) aa d (ao5 _) aa) ?_;exact bv.2 bo
  rintro _ rfl;dsimp only;rw[aM (aC (show¬((20:Z)+20*((1:X):Z)<=ak p) by simp only[a5];omega))];exact bv.2 bo
 rintro _ rfl;refine ae.bs (IZ (lo:=20) aa d aa (bd _)) ?_;refine ae.aN (P:=λb=>b=(p,())) ?_ (by rintro _ rfl;exact bv.2 bo);by_cases k:p.length=20
 ·refine ae.steps 0 (λ_ a=>a=(20,p,())) rfl (λg a e=>by omega) ?_;rintro _ rfl;dsimp only;rw[aM (aC (show¬((20:Z)<ak p) by simp only[a5];omega))];exact bv.2 bo
 refine ae.steps 1 (λc a=>a=(20+20*(c:Z),p,())) rfl ?_ ?_
 ·rintro c _ i rfl;obtain rfl:c=0:=aa;dsimp only;rw[aQ (aJ (show(20:Z)+20*((0:X):Z)<ak p by simp only[a5];omega))];refine ae.aN (P:=λb=>b=(0,p,())) ?_ ?_
  ·refine ae.steps 0 (λ_ a=>a=(0,40,p,())) rfl (λg a e=>by omega) ?_;rintro _ rfl;dsimp only;rw[aM (aC (show¬((40:Z)<=ak p) by simp only[a5];omega))];exact bv.2 bo
  rintro _ rfl;refine ae.bs (y:=(p,())) ?_ (bv.2 bo);dsimp only;have f:ak p=21:=(by rw[a5];omega);rw[f,aQ (aJ (ab:au (0+(20+20*((0:X):Z)))<21))];exact af (afa aa d) rfl
 rintro _ rfl;dsimp only;rw[aM (aC (show¬((20:Z)+20*((1:X):Z)<ak p) by simp only[a5];omega))];exact bv.2 bo
end Go.jt
end
