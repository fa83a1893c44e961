/- Parts of the proof: contracts of the seat's functions. -/
import Derived.Test.YtofkkcflpkcdaaaGreatJoyW1
import Derived.Test.YtofkkcflpkcdaaaGreatProg
import Derived.KernelRfl
set_option linter.unusedSimpArgs false
set_option linter.unusedVariables false
set_option linter.unnecessarySimpa false
namespace Go.Proofs.Joy
open Go.Ab Go.Proofs
@[go_sem] theorem F.ty176:tyA Tryz.prog 176=some (true,8):=by kernel_rfl
@[go_sem] theorem F.ty41:tyA Tryz.prog 41=some (false,1):=by kernel_rfl
@[go_sem] theorem F.ty160:tyA Tryz.prog 160=some (true,4):=by kernel_rfl
@[go_sem] theorem F.ty56:tyA Tryz.prog 56=some (false,1):=by kernel_rfl
@[go_sem] theorem F.ty64:tyA Tryz.prog 64=some (true,5):=by kernel_rfl
@[go_sem] theorem F.ty3:tyA Tryz.prog 3=some (false,1):=by kernel_rfl
@[go_sem] theorem F.ty26:tyA Tryz.prog 26=some (false,1):=by kernel_rfl
@[go_sem] theorem F.ty9:tyA Tryz.prog 9=some (false,1):=by kernel_rfl
@[go_sem] theorem F.ty4:tyA Tryz.prog 4=some (false,1):=by kernel_rfl
@[go_sem] theorem F.ty5:tyA Tryz.prog 5=some (false,1):=by kernel_rfl
@[go_sem] theorem F.ty37:tyA Tryz.prog 37=some (false,1):=by kernel_rfl
@[go_sem] theorem F.ty23:tyA Tryz.prog 23=some (false,1):=by kernel_rfl
@[go_sem] theorem F.ty25:tyA Tryz.prog 25=some (true,29):=by kernel_rfl
@[go_sem] theorem F.fld43_5:fldT Tryz.prog 43 5=some (5,false,1):=by kernel_rfl
@[go_sem] theorem F.fld25_8:fldT Tryz.prog 25 8=some (8,true,8):=by kernel_rfl
@[go_sem] theorem F.fld43_3:fldT Tryz.prog 43 3=some (3,false,1):=by kernel_rfl
@[go_sem] theorem F.fld25_10:fldT Tryz.prog 25 10=some (17,false,1):=by kernel_rfl
@[go_sem] theorem F.fld25_9:fldT Tryz.prog 25 9=some (16,false,1):=by kernel_rfl
@[go_sem] theorem F.fld25_7:fldT Tryz.prog 25 7=some (7,false,1):=by kernel_rfl
@[go_sem] theorem F.fld25_6:fldT Tryz.prog 25 6=some (6,false,1):=by kernel_rfl
@[go_sem] theorem F.fld25_5:fldT Tryz.prog 25 5=some (5,false,1):=by kernel_rfl
@[go_sem] theorem F.fld25_4:fldT Tryz.prog 25 4=some (4,false,1):=by kernel_rfl
@[go_sem] theorem F.fld25_3:fldT Tryz.prog 25 3=some (3,false,1):=by kernel_rfl
@[go_sem] theorem F.fld25_2:fldT Tryz.prog 25 2=some (2,false,1):=by kernel_rfl
@[go_sem] theorem F.fld25_11:fldT Tryz.prog 25 11=some (18,false,1):=by kernel_rfl
@[go_sem] theorem F.fld25_0:fldT Tryz.prog 25 0=some (0,false,1):=by kernel_rfl
@[go_sem] theorem F.fld25_1:fldT Tryz.prog 25 1=some (1,false,1):=by kernel_rfl
@[go_sem] theorem F.fld64_3:fldT Tryz.prog 64 3=some (3,false,1):=by kernel_rfl
@[go_sem] theorem F.fld64_4:fldT Tryz.prog 64 4=some (4,false,1):=by kernel_rfl
@[go_sem] theorem F.fld59_1:fldT Tryz.prog 59 1=some (29,false,1):=by kernel_rfl
@[go_sem] theorem F.fld25_13:fldT Tryz.prog 25 13=some (20,false,1):=by kernel_rfl
@[go_sem] theorem F.fld64_2:fldT Tryz.prog 64 2=some (2,false,1):=by kernel_rfl
@[go_sem] theorem F.fld64_1:fldT Tryz.prog 64 1=some (1,false,1):=by kernel_rfl
@[go_sem] theorem F.fld64_0:fldT Tryz.prog 64 0=some (0,false,1):=by kernel_rfl
@[go_sem] theorem F.fld25_14:fldT Tryz.prog 25 14=some (21,false,1):=by kernel_rfl
@[go_sem] theorem F.fld25_19:fldT Tryz.prog 25 19=some (26,false,1):=by kernel_rfl
@[go_sem] theorem F.fld25_18:fldT Tryz.prog 25 18=some (25,false,1):=by kernel_rfl
@[go_sem] theorem F.fld59_2:fldT Tryz.prog 59 2=some (30,false,1):=by kernel_rfl
@[go_sem] theorem F.fld25_21:fldT Tryz.prog 25 21=some (28,false,1):=by kernel_rfl
@[go_sem] theorem F.fld59_0:fldT Tryz.prog 59 0=some (0,true,29):=by kernel_rfl
@[go_sem] theorem F.fld25_16:fldT Tryz.prog 25 16=some (23,false,1):=by kernel_rfl
@[go_sem] theorem F.fld43_0:fldT Tryz.prog 43 0=some (0,false,1):=by kernel_rfl
@[go_sem] theorem F.fld39_0:fldT Tryz.prog 39 0=some (0,false,1):=by kernel_rfl
@[go_sem] theorem F.fld25_15:fldT Tryz.prog 25 15=some (22,false,1):=by kernel_rfl
@[go_sem] theorem F.fld25_20:fldT Tryz.prog 25 20=some (27,false,1):=by kernel_rfl
@[go_sem] theorem F.fld25_17:fldT Tryz.prog 25 17=some (24,false,1):=by kernel_rfl
@[go_sem] theorem F.fld43_2:fldT Tryz.prog 43 2=some (2,false,1):=by kernel_rfl
@[go_sem] theorem F.fld39_1:fldT Tryz.prog 39 1=some (1,false,1):=by kernel_rfl
@[go_sem] theorem F.fld25_12:fldT Tryz.prog 25 12=some (19,false,1):=by kernel_rfl
@[go_sem] theorem F.ix176:ixT Tryz.prog 176=some (some 8,false,1):=by kernel_rfl
@[go_sem] theorem F.ix22:ixT Tryz.prog 22=some (some 8,false,1):=by kernel_rfl
@[go_sem] theorem F.ix160:ixT Tryz.prog 160=some (some 4,false,1):=by kernel_rfl
@[go_sem] theorem F.ix9:ixT Tryz.prog 9=none:=by kernel_rfl
@[go_sem] theorem F.ix97:ixT Tryz.prog 97=some (some 4,false,1):=by kernel_rfl
@[go_sem] theorem F.ix71:ixT Tryz.prog 71=some (some 2,false,1):=by kernel_rfl
@[go_sem] theorem F.ix26:ixT Tryz.prog 26=some (none,false,1):=by kernel_rfl
@[go_sem] theorem F.ix47:ixT Tryz.prog 47=some (none,false,1):=by kernel_rfl
@[go_sem] theorem F.str9:isStrT Tryz.prog 9=true:=by kernel_rfl
@[go_sem] theorem F.zero9:zeroT Tryz.prog 9=some ([.st []]):=by kernel_rfl
@[go_sem] theorem F.zero5:zeroT Tryz.prog 5=some ([.u8 0#8]):=by kernel_rfl
@[go_sem] theorem F.zero3:zeroT Tryz.prog 3=some ([.i64 0]):=by kernel_rfl
@[go_sem] theorem F.zero176:zeroT Tryz.prog 176=some ([.pn,.pn,.pn,.pn,.pn,.pn,.pn,.pn]):=by kernel_rfl
@[go_sem] theorem F.zero170:zeroT Tryz.prog 170=some ([.bo false,.u16 0#16,.u8 0#8,.i64 0]):=by kernel_rfl
@[go_sem] theorem F.zero160:zeroT Tryz.prog 160=some ([.u8 0#8,.u8 0#8,.u8 0#8,.u8 0#8]):=by kernel_rfl
@[go_sem] theorem F.zero64:zeroT Tryz.prog 64=some ([.i64 0,.i64 0,.i64 0,.i64 0,.i64 0]):=by kernel_rfl
@[go_sem] theorem F.zero97:zeroT Tryz.prog 97=some ([.i64 0,.i64 0,.i64 0,.i64 0]):=by kernel_rfl
@[go_sem] theorem F.zero71:zeroT Tryz.prog 71=some ([.st [],.st []]):=by kernel_rfl
@[go_sem] theorem F.zero59:zeroT Tryz.prog 59=some ([.u8 0#8,.u8 0#8,.u8 0#8,.u8 0#8,.u8 0#8,.u8 0#8,.u8 0#8,.u8 0#8,.u8 0#8,.u8 0#8,.u8 0#8,.u8 0#8,.u8 0#8,.u8 0#8,.u8 0#8,.u8 0#8,.u16 0#16,.u16 0#16,.u16 0#16,.u16 0#16,.u16 0#16,.u8 0#8,.u8 0#8,.u8 0#8,.u8 0#8,.bo false,.bo false,.bo false,.bo false,.ifn,.u8 0#8]):=by kernel_rfl
@[go_sem] theorem F.zero39:zeroT Tryz.prog 39=some ([.sn,.sn]):=by kernel_rfl
@[go_sem] theorem F.zero25:zeroT Tryz.prog 25=some ([.u8 0#8,.u8 0#8,.u8 0#8,.u8 0#8,.u8 0#8,.u8 0#8,.u8 0#8,.u8 0#8,.u8 0#8,.u8 0#8,.u8 0#8,.u8 0#8,.u8 0#8,.u8 0#8,.u8 0#8,.u8 0#8,.u16 0#16,.u16 0#16,.u16 0#16,.u16 0#16,.u16 0#16,.u8 0#8,.u8 0#8,.u8 0#8,.u8 0#8,.bo false,.bo false,.bo false,.bo false]):=by kernel_rfl
@[go_sem] theorem F.el41:elT Tryz.prog 41=some (170,4,16):=by kernel_rfl
@[go_sem] theorem F.el37:elT Tryz.prog 37=some (3,1,8):=by kernel_rfl
@[go_sem] theorem F.el26:elT Tryz.prog 26=some (5,1,1):=by kernel_rfl
@[go_sem] theorem F.el47:elT Tryz.prog 47=some (9,1,16):=by kernel_rfl
@[go_sem] theorem F.eq25:eqT Tryz.prog 25=some ([.int .u8,.int .u8,.int .u8,.int .u8,.int .u8,.int .u8,.int .u8,.int .u8,.int .u8,.int .u8,.int .u8,.int .u8,.int .u8,.int .u8,.int .u8,.int .u8,.int .u16,.int .u16,.int .u16,.int .u16,.int .u16,.int .u8,.int .u8,.int .u8,.int .u8,.bool,.bool,.bool,.bool]):=by kernel_rfl
@[go_sem] theorem F.kind4:kindT Tryz.prog 4=some .bool:=by kernel_rfl
@[go_sem] theorem F.kind26:kindT Tryz.prog 26=some .slice:=by kernel_rfl
@[go_sem] theorem F.conv3_98:convT Tryz.prog 3 98=some (.int .u64):=by kernel_rfl
@[go_sem] theorem F.conv158_23:convT Tryz.prog 158 23=some (.int .u16):=by kernel_rfl
@[go_sem] theorem F.conv5_158:convT Tryz.prog 5 158=some (.int .i8):=by kernel_rfl
@[go_sem] theorem F.conv125_5:convT Tryz.prog 125 5=some (.int .u8):=by kernel_rfl
@[go_sem] theorem F.conv125_23:convT Tryz.prog 125 23=some (.int .u16):=by kernel_rfl
@[go_sem] theorem F.conv23_125:convT Tryz.prog 23 125=some (.int .u32):=by kernel_rfl
@[go_sem] theorem F.conv5_125:convT Tryz.prog 5 125=some (.int .u32):=by kernel_rfl
@[go_sem] theorem F.conv23_3:convT Tryz.prog 23 3=some (.int .i64):=by kernel_rfl
@[go_sem] theorem F.conv5_23:convT Tryz.prog 5 23=some (.int .u16):=by kernel_rfl
@[go_sem] theorem F.conv23_5:convT Tryz.prog 23 5=some (.int .u8):=by kernel_rfl
@[go_sem] theorem F.conv5_3:convT Tryz.prog 5 3=some (.int .i64):=by kernel_rfl
@[go_sem] theorem F.conv3_5:convT Tryz.prog 3 5=some (.int .u8):=by kernel_rfl
@[go_sem] theorem F.conv3_23:convT Tryz.prog 3 23=some (.int .u16):=by kernel_rfl
@[go_sem] theorem F.nif29:notIface Tryz.prog 29=true:=by kernel_rfl
@[go_sem] theorem F.len9:lenT Tryz.prog 9=some .str:=by kernel_rfl
@[go_sem] theorem F.len37:lenT Tryz.prog 37=some .slice:=by kernel_rfl
@[go_sem] theorem F.len47:lenT Tryz.prog 47=some .slice:=by kernel_rfl
@[go_sem] theorem F.len26:lenT Tryz.prog 26=some .slice:=by kernel_rfl
@[go_sem] theorem F.nint41:notIntT Tryz.prog 41=true:=by kernel_rfl
@[go_sem] theorem F.nint47:notIntT Tryz.prog 47=true:=by kernel_rfl
@[go_sem] theorem F.nint37:notIntT Tryz.prog 37=true:=by kernel_rfl
@[go_sem] theorem F.nint26:notIntT Tryz.prog 26=true:=by kernel_rfl
@[go_sem] theorem F.app41:appT Tryz.prog 41=some ⟨170,4,16,[.bo false,.u16 0#16,.u8 0#8,.i64 0]⟩:=by kernel_rfl
@[go_sem] theorem F.app47:appT Tryz.prog 47=some ⟨9,1,16,[.st []]⟩:=by kernel_rfl
@[go_sem] theorem F.app37:appT Tryz.prog 37=some ⟨3,1,8,[.i64 0]⟩:=by kernel_rfl
@[go_sem] theorem F.app26:appT Tryz.prog 26=some ⟨5,1,1,[.u8 0#8]⟩:=by kernel_rfl
@[go_sem] theorem F.bld176:bldT Tryz.prog 176=true:=by kernel_rfl
@[go_sem] theorem F.bld170:bldT Tryz.prog 170=true:=by kernel_rfl
@[go_sem] theorem F.bld160:bldT Tryz.prog 160=true:=by kernel_rfl
@[go_sem] theorem F.bld64:bldT Tryz.prog 64=true:=by kernel_rfl
@[go_sem] theorem F.bld97:bldT Tryz.prog 97=true:=by kernel_rfl
@[go_sem] theorem F.bld59:bldT Tryz.prog 59=true:=by kernel_rfl
@[go_sem] theorem F.bld39:bldT Tryz.prog 39=true:=by kernel_rfl
@[go_sem] theorem F.bld25:bldT Tryz.prog 25=true:=by kernel_rfl
@[go_sem] theorem F.pl176_7:plT Tryz.prog 176 7=some (7,1):=by kernel_rfl
@[go_sem] theorem F.pl176_6:plT Tryz.prog 176 6=some (6,1):=by kernel_rfl
@[go_sem] theorem F.pl176_5:plT Tryz.prog 176 5=some (5,1):=by kernel_rfl
@[go_sem] theorem F.pl176_4:plT Tryz.prog 176 4=some (4,1):=by kernel_rfl
@[go_sem] theorem F.pl176_3:plT Tryz.prog 176 3=some (3,1):=by kernel_rfl
@[go_sem] theorem F.pl176_2:plT Tryz.prog 176 2=some (2,1):=by kernel_rfl
@[go_sem] theorem F.pl176_1:plT Tryz.prog 176 1=some (1,1):=by kernel_rfl
@[go_sem] theorem F.pl176_0:plT Tryz.prog 176 0=some (0,1):=by kernel_rfl
@[go_sem] theorem F.pl170_3:plT Tryz.prog 170 3=some (3,1):=by kernel_rfl
@[go_sem] theorem F.pl170_2:plT Tryz.prog 170 2=some (2,1):=by kernel_rfl
@[go_sem] theorem F.pl170_1:plT Tryz.prog 170 1=some (1,1):=by kernel_rfl
@[go_sem] theorem F.pl170_0:plT Tryz.prog 170 0=some (0,1):=by kernel_rfl
@[go_sem] theorem F.pl160_3:plT Tryz.prog 160 3=some (3,1):=by kernel_rfl
@[go_sem] theorem F.pl160_2:plT Tryz.prog 160 2=some (2,1):=by kernel_rfl
@[go_sem] theorem F.pl160_1:plT Tryz.prog 160 1=some (1,1):=by kernel_rfl
@[go_sem] theorem F.pl160_0:plT Tryz.prog 160 0=some (0,1):=by kernel_rfl
@[go_sem] theorem F.pl64_4:plT Tryz.prog 64 4=some (4,1):=by kernel_rfl
@[go_sem] theorem F.pl64_3:plT Tryz.prog 64 3=some (3,1):=by kernel_rfl
@[go_sem] theorem F.pl64_2:plT Tryz.prog 64 2=some (2,1):=by kernel_rfl
@[go_sem] theorem F.pl64_1:plT Tryz.prog 64 1=some (1,1):=by kernel_rfl
@[go_sem] theorem F.pl64_0:plT Tryz.prog 64 0=some (0,1):=by kernel_rfl
@[go_sem] theorem F.pl97_3:plT Tryz.prog 97 3=some (3,1):=by kernel_rfl
@[go_sem] theorem F.pl97_2:plT Tryz.prog 97 2=some (2,1):=by kernel_rfl
@[go_sem] theorem F.pl97_1:plT Tryz.prog 97 1=some (1,1):=by kernel_rfl
@[go_sem] theorem F.pl97_0:plT Tryz.prog 97 0=some (0,1):=by kernel_rfl
@[go_sem] theorem F.pl71_1:plT Tryz.prog 71 1=some (1,1):=by kernel_rfl
@[go_sem] theorem F.pl71_0:plT Tryz.prog 71 0=some (0,1):=by kernel_rfl
@[go_sem] theorem F.pl59_1:plT Tryz.prog 59 1=some (29,1):=by kernel_rfl
@[go_sem] theorem F.pl59_0:plT Tryz.prog 59 0=some (0,29):=by kernel_rfl
@[go_sem] theorem F.pl39_0:plT Tryz.prog 39 0=some (0,1):=by kernel_rfl
@[go_sem] theorem F.pl25_15:plT Tryz.prog 25 15=some (22,1):=by kernel_rfl
@[go_sem] theorem F.pl25_0:plT Tryz.prog 25 0=some (0,1):=by kernel_rfl
@[go_sem] theorem F.pl25_12:plT Tryz.prog 25 12=some (19,1):=by kernel_rfl
@[go_sem] def dr13:Nat→Draw
  | 6=>⟨[0,0,3,7,0,0,48,112,255],[(0,[]),(1,[]),(2,[]),(3,[]),(4,[]),(5,[]),(6,[]),(7,[]),(8,[])],[]⟩
  | _=>{}
@[go_sem] def dr14:Nat→Draw
  | 13=>⟨[0,0,0,4,14,30,62,126,0,0,768,1792,3966,8190,16383,32767],[(0,[]),(1,[]),(2,[]),(3,[]),(4,[]),(5,[]),(8,[]),(9,[]),(10,[]),(11,[]),(6,[11]),(7,[]),(12,[]),(13,[]),(14,[]),(15,[])],[]⟩
  | _=>{}
@[go_sem] def dr20:Nat→Draw
  | 8=>⟨[0,1,3,7,0,16,15,79,255,511],[(0,[]),(1,[]),(2,[]),(3,[]),(4,[]),(6,[]),(7,[]),(5,[3]),(8,[]),(9,[])],[]⟩
  | 14=>⟨[0,1,3,7,0,16,0,0,128,496,15,1039,4095],[(0,[]),(1,[]),(2,[]),(3,[]),(4,[]),(6,[]),(7,[]),(8,[]),(10,[]),(11,[]),(5,[3,8]),(9,[3]),(12,[])],[]⟩
  | 22=>⟨[0,0,0,0,8,28,0,64,192,448,960,2047,4095,8191,8191,16383,65535],[(0,[]),(1,[]),(2,[]),(3,[]),(4,[]),(6,[]),(7,[]),(8,[]),(9,[]),(10,[]),(5,[10]),(11,[]),(12,[]),(13,[]),(14,[]),(15,[]),(16,[])],[]⟩
  | 31=>⟨[0,0,2,0,0,24,63],[(0,[]),(1,[]),(2,[]),(3,[]),(4,[]),(5,[2]),(6,[])],[]⟩
  | _=>{}
@[go_sem] def dr22:Nat→Draw
  | 11=>⟨[0,0,0,4,12,28,0,124,0,256,768,1792,3840,7936,16128,32767,65535,131071,131071,262143,1048575],[(0,[]),(1,[]),(2,[]),(3,[]),(4,[]),(5,[]),(6,[]),(8,[]),(9,[]),(10,[]),(11,[]),(12,[]),(13,[]),(14,[]),(7,[1,12]),(15,[]),(16,[]),(17,[]),(18,[]),(19,[]),(20,[])],[]⟩
  | _=>{}
@[go_sem] def dr27:Nat→Draw
  | 1=>⟨[0,1,3,7,0,16,48,112,240,511,1023],[(0,[]),(1,[]),(2,[]),(3,[]),(4,[]),(5,[]),(6,[]),(7,[]),(8,[]),(9,[]),(10,[])],[]⟩
  | _=>{}
@[go_sem] def dr32:Nat→Draw
  | 6=>⟨[0,0,2,6,15,31,63,127,1,0,512,1793,3841,8191,16383],[(1,[]),(2,[]),(3,[]),(9,[]),(10,[]),(0,[]),(4,[]),(5,[]),(6,[]),(7,[]),(8,[5]),(11,[]),(12,[]),(13,[]),(14,[])],[]⟩
  | 8=>⟨[0,0,2,6,15,31,1,0,128,449,961,2047,4095],[(1,[]),(2,[]),(3,[]),(7,[]),(8,[]),(0,[]),(4,[]),(5,[]),(6,[5]),(9,[]),(10,[]),(11,[]),(12,[])],[]⟩
  | _=>{}
@[go_sem] def dr35:Nat→Draw
  | 1=>⟨[0,1,0,4,12,31,0,64,0,256,768,1984,4095,8191],[(0,[]),(1,[]),(2,[]),(3,[]),(4,[]),(5,[]),(6,[]),(7,[]),(8,[]),(9,[]),(10,[]),(11,[]),(12,[]),(13,[])],[]⟩
  | _=>{}
@[go_sem] def dr44:Nat→Draw
  | 1=>⟨[0,1,3,7,0,16,48,112,240,15,527,2047,4095],[(0,[]),(1,[]),(2,[]),(3,[]),(4,[]),(5,[]),(6,[]),(7,[]),(8,[]),(9,[]),(10,[]),(11,[]),(12,[])],[]⟩
  | _=>{}
@[go_sem] def dr45:Nat→Draw
  | 18=>⟨[0,0,2,6,14,30,0,0,128,384,896,1920,0,4096,16382,32767,65535,131071,262143],[(0,[]),(1,[]),(2,[]),(3,[]),(4,[]),(5,[]),(6,[]),(7,[]),(8,[]),(9,[]),(10,[]),(11,[]),(12,[]),(13,[]),(14,[]),(15,[]),(16,[]),(17,[]),(18,[])],[]⟩
  | 23=>⟨[0,0,2,6,14,30,0,64,192,448,0,1984,0,4096,12288,28672,61440,0,131072,524286,1048574,2097150,2097150,4194303,12582911,29360127,62914559,134217727],[(0,[]),(1,[]),(2,[]),(3,[]),(4,[]),(5,[]),(6,[]),(7,[]),(8,[]),(9,[]),(10,[]),(12,[]),(13,[]),(14,[]),(15,[]),(16,[]),(17,[]),(18,[]),(11,[5,16]),(19,[]),(20,[]),(21,[]),(22,[]),(23,[]),(24,[]),(25,[]),(26,[]),(27,[])],[]⟩
  | 29=>⟨[0,0,0,4,12,28,60,0,128,508,0,1024,3072,7168,15360,32766,65535,131071,262143,524287],[(0,[]),(1,[]),(2,[]),(3,[]),(4,[]),(5,[]),(6,[]),(7,[]),(8,[]),(9,[]),(10,[]),(11,[]),(12,[]),(13,[]),(14,[]),(15,[]),(16,[]),(17,[]),(18,[]),(19,[])],[]⟩
  | 9=>⟨[0,1,3,7,0,16,0,15,143,511],[(0,[]),(1,[]),(2,[]),(3,[]),(4,[]),(6,[]),(7,[]),(8,[]),(5,[3]),(9,[])],[]⟩
  | _=>{}
@[go_sem] def dr46:Nat→Draw
  | 1=>⟨[0,1,3,7,0,0,48,127,255],[(0,[]),(1,[]),(2,[]),(3,[]),(4,[]),(5,[]),(6,[3]),(7,[]),(8,[])],[]⟩
  | _=>{}
@[go_sem] def dr47:Nat→Draw
  | 0=>⟨[0,0,2,6,14,30,62,0,128,510,1023,2047,4095,8191],[(0,[]),(1,[]),(2,[]),(3,[]),(4,[]),(5,[]),(6,[]),(7,[]),(8,[5]),(9,[]),(10,[]),(11,[]),(12,[]),(13,[])],[]⟩
  | _=>{}
@[go_sem] def dr48:Nat→Draw
  | 0=>⟨[0,0,2,6,14,0,0,64,192,448,0,2046,4095,8191,16383],[(0,[]),(1,[]),(2,[]),(3,[]),(4,[]),(5,[]),(6,[]),(7,[]),(8,[]),(9,[]),(10,[]),(11,[]),(12,[]),(13,[]),(14,[])],[]⟩
  | _=>{}
@[go_sem] def dr49:Nat→Draw
  | 1=>⟨[0,1,3,7,0,0,32,96,224,511,1023],[(0,[]),(1,[]),(2,[]),(3,[]),(4,[]),(5,[]),(6,[]),(7,[]),(8,[]),(9,[]),(10,[])],[]⟩
  | _=>{}
@[go_sem] def dr52:Nat→Draw
  | 0=>⟨[0,0,2,6,14,0,0,96,0,510,1023,2047,4095],[(0,[]),(1,[]),(2,[]),(3,[]),(4,[]),(5,[]),(6,[]),(8,[]),(7,[4]),(9,[]),(10,[]),(11,[]),(12,[])],[]⟩
  | _=>{}
@[go_sem] def dr57:Nat→Draw
  | 12=>⟨[0,0,2,6,14,30,62,0,128,384,896,1920,3968,8190,16383,32767,65535,131071],[(0,[]),(1,[]),(2,[]),(3,[]),(4,[]),(5,[]),(6,[]),(7,[]),(8,[]),(9,[]),(10,[]),(11,[]),(12,[5]),(13,[]),(14,[]),(15,[]),(16,[]),(17,[])],[]⟩
  | 19=>⟨[0,1,0,4,12,28,60,0,128,384,896,0,3968,0,8192,24576,57344,122880,262143,524287,1048575,1048575,1048575,2097151,12582911,33554431],[(0,[]),(1,[]),(2,[]),(3,[]),(4,[]),(5,[]),(6,[]),(7,[]),(8,[]),(9,[]),(10,[]),(11,[]),(13,[]),(14,[]),(15,[]),(16,[]),(17,[]),(12,[6,17]),(18,[]),(19,[]),(20,[]),(21,[]),(22,[]),(23,[]),(24,[]),(25,[])],[]⟩
  | _=>{}
@[go_sem] def dr58:Nat→Draw
  | 3=>⟨[0,0,0,4,12,28,0,124,0,256,768,1792,3840,7936,16128,32767,65535,131071,131071,262143,1048575],[(0,[]),(1,[]),(2,[]),(3,[]),(4,[]),(5,[]),(6,[]),(8,[]),(9,[]),(10,[]),(11,[]),(12,[]),(13,[]),(14,[]),(7,[1,12]),(15,[]),(16,[]),(17,[]),(18,[]),(19,[]),(20,[])],[]⟩
  | _=>{}
@[go_sem] def dr59:Nat→Draw
  | 3=>⟨[0,1,0,0,8,24,56,120,255,511,1023,1023,2047,8191],[(0,[]),(1,[]),(2,[]),(3,[]),(4,[]),(5,[]),(6,[]),(7,[]),(8,[]),(9,[]),(10,[]),(11,[]),(12,[]),(13,[])],[]⟩
  | 7=>⟨[0,0,2,0,0,16,48,112,240,0,1022,2047,4095,8191,16383],[(0,[]),(1,[]),(2,[]),(3,[]),(4,[]),(5,[]),(6,[]),(7,[]),(8,[]),(9,[]),(10,[]),(11,[]),(12,[]),(13,[]),(14,[])],[]⟩
  | _=>{}
@[go_sem] def dr61:Nat→Draw
  | 6=>⟨[0,0,2,0,8,31],[(0,[]),(1,[]),(2,[]),(3,[]),(4,[2]),(5,[])],[]⟩
  | 10=>⟨[0,0,0,4,14,0,32,96,224,480,1023,2047,4095,4095,8191,32767],[(0,[]),(1,[]),(2,[]),(3,[]),(5,[]),(6,[]),(7,[]),(8,[]),(9,[]),(4,[9]),(10,[]),(11,[]),(12,[]),(13,[]),(14,[]),(15,[])],[]⟩
  | 27=>⟨[0,0,2,0,8,31],[(0,[]),(1,[]),(2,[]),(3,[]),(4,[2]),(5,[])],[]⟩
  | 31=>⟨[0,1,3,7,0,0,32,15,143,511],[(0,[]),(1,[]),(2,[]),(3,[]),(4,[]),(5,[]),(7,[]),(8,[]),(6,[3]),(9,[])],[]⟩
  | _=>{}
@[go_sem] def dr62:Nat→Draw
  | 6=>⟨[0,1,3,7,0,0,0,64,224,15,527,2047],[(0,[]),(1,[]),(2,[]),(3,[]),(4,[]),(5,[]),(6,[]),(7,[]),(9,[]),(10,[]),(8,[3]),(11,[])],[]⟩
  | 9=>⟨[0,0,2,0,8,24,56,0,248,511],[(0,[]),(1,[]),(2,[]),(3,[]),(4,[]),(5,[]),(6,[]),(7,[]),(8,[2]),(9,[])],[]⟩
  | 2=>⟨[0,0,2,0,0,16,56,127],[(0,[]),(1,[]),(2,[]),(3,[]),(4,[]),(5,[]),(6,[2]),(7,[])],[]⟩
  | _=>{}
@[go_sem] def dr63:Nat→Draw
  | 2=>⟨[0,0,0,4,0,16,48,112,240,0,0,1024,3584,0,8192,24576,57344,122880,262140,524284,1048572,1048572,2097149,6291453,14680061,31457277,67108863,134217727,268435455,536870911],[(0,[]),(1,[]),(2,[]),(3,[]),(4,[]),(5,[]),(6,[]),(7,[]),(8,[]),(9,[]),(10,[]),(11,[]),(13,[]),(14,[]),(15,[]),(16,[]),(17,[]),(12,[3,8,17]),(18,[]),(19,[]),(20,[]),(21,[]),(22,[]),(23,[]),(24,[]),(25,[]),(26,[]),(27,[]),(28,[]),(29,[])],[]⟩
  | 5=>⟨[0,0,0,4,0,16,48,112,240,0,512,1536,3584,0,8192,7680,40448,130560,0,262144,786432,1835008,3932160,8388604,16777212,33554428,33554428,67108861,201326589,469762045,1006632957,2147483647,4294967295,8589934591,17179869183],[(0,[]),(1,[]),(2,[]),(3,[]),(4,[]),(5,[]),(6,[]),(7,[]),(8,[]),(9,[]),(10,[]),(11,[]),(12,[]),(13,[]),(15,[]),(16,[]),(18,[]),(19,[]),(20,[]),(21,[]),(22,[]),(14,[3,8,12,22]),(17,[3,8,22]),(23,[]),(24,[]),(25,[]),(26,[]),(27,[]),(28,[]),(29,[]),(30,[]),(31,[]),(32,[]),(33,[]),(34,[])],[]⟩
  | _=>{}
@[go_sem] def dr64:Nat→Draw
  | 1=>⟨[0,1,3,7,15,0,32,127,255],[(0,[]),(1,[]),(2,[]),(3,[]),(4,[]),(5,[]),(6,[]),(7,[]),(8,[])],[]⟩
  | 23=>⟨[0,0,0,4,0,16,48,112,240,0,512,0,2048,6144,14336,30720,65532,131068,262140,262140,524285,1572861,3670013,7864317,16777215,33554431,67108863,134217727],[(0,[]),(1,[]),(2,[]),(3,[]),(4,[]),(5,[]),(6,[]),(7,[]),(8,[]),(9,[]),(11,[]),(12,[]),(13,[]),(14,[]),(15,[]),(10,[3,8,15]),(16,[]),(17,[]),(18,[]),(19,[]),(20,[]),(21,[]),(22,[]),(23,[]),(24,[]),(25,[]),(26,[]),(27,[])],[]⟩
  | _=>{}
@[go_sem] def dr67:Nat→Draw
  | 3=>⟨[0,0,2,7,15,0,32,96,0,256,768,1792,4064,8191,16383,0,65535,131071],[(1,[]),(2,[]),(5,[]),(6,[]),(7,[]),(8,[]),(9,[]),(10,[]),(11,[]),(12,[]),(15,[]),(0,[]),(3,[]),(4,[]),(13,[]),(14,[]),(16,[]),(17,[])],[]⟩
  | _=>{}
@[go_sem] def dr88:Nat→Draw
  | 2=>⟨[0,1,3,7,0,16,48,112,240,0,15,1039,4095],[(0,[]),(1,[]),(2,[]),(3,[]),(4,[]),(5,[]),(6,[]),(7,[]),(8,[]),(9,[]),(10,[]),(11,[]),(12,[])],[]⟩
  | 4=>⟨[0,1,3,7,0,16,48,112,240,0,15,1039,4095],[(0,[]),(1,[]),(2,[]),(3,[]),(4,[]),(5,[]),(6,[]),(7,[]),(8,[]),(9,[]),(10,[]),(11,[]),(12,[])],[]⟩
  | _=>{}
@[go_sem] def dr99:Nat→Draw
  | 13=>⟨[0,0,0,0,12,31,63],[(0,[]),(1,[]),(2,[]),(3,[]),(4,[0]),(5,[]),(6,[])],[]⟩
  | 15=>⟨[0,0,0,0,12,31,63],[(0,[]),(1,[]),(2,[]),(3,[]),(4,[0]),(5,[]),(6,[])],[]⟩
  | _=>{}
@[go_sem] def dr100:Nat→Draw
  | 1=>⟨[0,0,2,7,15,31,63,63,127,511],[(0,[]),(1,[]),(2,[0]),(3,[]),(4,[]),(5,[]),(6,[]),(7,[]),(8,[]),(9,[])],[]⟩
  | _=>{}
@[go_sem] def dr109:Nat→Draw
  | 3=>⟨[0,1,3,7,15,0,32,96,255,511],[(0,[]),(1,[]),(2,[]),(3,[]),(4,[]),(5,[]),(6,[]),(7,[]),(8,[]),(9,[])],[]⟩
  | _=>{}
@[go_sem] def dr111:Nat→Draw
  | 18=>⟨[0,1,3,7,0,0,32,96,224,480,15,1039,4095],[(0,[]),(1,[]),(2,[]),(3,[]),(4,[]),(5,[]),(6,[]),(7,[]),(8,[]),(9,[]),(10,[]),(11,[]),(12,[])],[]⟩
  | _=>{}
@[go_sem] def dr112:Nat→Draw
  | 5=>⟨[0,0,0,4,14,0,32,96,224,480,1023,2047,4095,4095,8191,32767],[(0,[]),(1,[]),(2,[]),(3,[]),(5,[]),(6,[]),(7,[]),(8,[]),(9,[]),(4,[9]),(10,[]),(11,[]),(12,[]),(13,[]),(14,[]),(15,[])],[]⟩
  | 11=>⟨[0,0,2,6,14,0,62,0,128,384,896,1920,4095,8191,16383,16383,32767,131071],[(0,[]),(1,[]),(2,[]),(3,[]),(4,[]),(5,[]),(7,[]),(8,[]),(9,[]),(10,[]),(11,[]),(6,[11]),(12,[]),(13,[]),(14,[]),(15,[]),(16,[]),(17,[])],[]⟩
  | _=>{}
@[go_sem] def dr114:Nat→Draw
  | 2=>⟨[0,0,0,0,8,24,56,120,0,256,768,1792,3840,8188,16380,32764,32764,65533,196605,458749,983037,2097151,4194303,8388607,16777215],[(0,[]),(1,[]),(2,[]),(3,[]),(4,[]),(5,[]),(6,[]),(7,[]),(8,[]),(9,[]),(10,[]),(11,[]),(12,[]),(13,[]),(14,[]),(15,[]),(16,[]),(17,[]),(18,[]),(19,[]),(20,[]),(21,[]),(22,[]),(23,[]),(24,[])],[]⟩
  | 4=>⟨[0,0,0,4,12,28,60,0,128,384,896,1920,4092,8188,16380,16380,32765,98301,229373,491517,1048575,2097151,4194303,8388607],[(0,[]),(1,[]),(2,[]),(3,[]),(4,[]),(5,[]),(6,[]),(7,[]),(8,[]),(9,[]),(10,[]),(11,[]),(12,[]),(13,[]),(14,[]),(15,[]),(16,[]),(17,[]),(18,[]),(19,[]),(20,[]),(21,[]),(22,[]),(23,[])],[]⟩
  | 0=>⟨[0,0,0,4,0,16,48,112,240,0,512,1536,3584,7680,16380,32764,65532,65532,131069,393213,917501,1966077,4194303,8388607,16777215,33554431],[(0,[]),(1,[]),(2,[]),(3,[]),(4,[]),(5,[]),(6,[]),(7,[]),(8,[]),(9,[]),(10,[]),(11,[]),(12,[]),(13,[]),(14,[]),(15,[]),(16,[]),(17,[]),(18,[]),(19,[]),(20,[]),(21,[]),(22,[]),(23,[]),(24,[]),(25,[])],[]⟩
  | _=>{}
@[go_sem] def dr119:Nat→Draw
  | 7=>⟨[0,1,3,7,0,16,48,112,240,0,1008,0,2048,6144,14336,30720,15,65551,262143],[(0,[]),(1,[]),(2,[]),(3,[]),(4,[]),(5,[]),(6,[]),(7,[]),(8,[]),(9,[]),(11,[]),(12,[]),(13,[]),(14,[]),(15,[]),(16,[]),(17,[]),(10,[3,15]),(18,[])],[]⟩
  | 11=>⟨[0,1,3,7,15,0,32,127,255],[(0,[]),(1,[]),(2,[]),(3,[]),(4,[]),(5,[]),(6,[4]),(7,[]),(8,[])],[]⟩
  | 17=>⟨[0,0,2,6,14,30,0,64,255],[(0,[]),(1,[]),(2,[]),(3,[]),(4,[]),(5,[]),(6,[]),(7,[5]),(8,[])],[]⟩
  | 21=>⟨[0,0,0,0,0,16,48,112,240,0,512,1536,3584,7680,0,16384,49152,114688,245760,0,524288,1572864,3670016,7864320,16777201,33554417,67108849,134217713,268435443,536870899,1073741811,2147483635,4294967287,8589934583,17179869175,34359738359,68719476735,137438953471,274877906943,549755813887],[(0,[]),(1,[]),(2,[]),(3,[]),(4,[]),(5,[]),(6,[]),(7,[]),(8,[]),(9,[]),(10,[]),(11,[]),(12,[]),(13,[]),(14,[]),(15,[]),(16,[]),(17,[]),(18,[]),(19,[]),(20,[]),(21,[]),(22,[]),(23,[]),(24,[]),(25,[]),(26,[]),(27,[]),(28,[]),(29,[]),(30,[]),(31,[]),(32,[]),(33,[]),(34,[]),(35,[]),(36,[]),(37,[]),(38,[]),(39,[])],[]⟩
  | 23=>⟨[0,0,0,4,12,0,32,96,29,285,797,1821,4095,8191,16383,32767],[(0,[]),(1,[]),(2,[]),(3,[]),(4,[]),(5,[]),(6,[]),(7,[]),(8,[]),(9,[]),(10,[]),(11,[6]),(12,[]),(13,[]),(14,[]),(15,[])],[]⟩
  | _=>{}
@[go_sem] def dr166:Nat→Draw
  | 6=>⟨[0,0,0,0,12,28,0,64,192,509,1021,0,4095,8191],[(0,[]),(1,[]),(2,[]),(3,[]),(4,[]),(5,[]),(6,[]),(7,[]),(8,[]),(9,[]),(11,[]),(10,[]),(12,[]),(13,[])],[]⟩
  | _=>{}
def dr0:Nat→Draw:=fun _=>{}
end Go.Proofs.Joy
namespace Go.Proofs.Joy
open Go.Ab
set_option maxHeartbeats 1000000
structure Rg where
  a:BitVec 8
  f:BitVec 8
  b:BitVec 8
  c:BitVec 8
  d:BitVec 8
  e:BitVec 8
  h:BitVec 8
  l:BitVec 8
  a2:BitVec 8
  f2:BitVec 8
  b2:BitVec 8
  c2:BitVec 8
  d2:BitVec 8
  e2:BitVec 8
  h2:BitVec 8
  l2:BitVec 8
  ix:BitVec 16
  iy:BitVec 16
  sp:BitVec 16
  pc:BitVec 16
  wz:BitVec 16
  i:BitVec 8
  r:BitVec 8
  im:BitVec 8
  pre:BitVec 8
  iff1:Bool
  iff2:Bool
  hlt:Bool
  dly:Bool
  deriving DecidableEq
def Rg.cells (r:Rg):List AV:=[.u8 r.a,.u8 r.f,.u8 r.b,.u8 r.c,.u8 r.d,.u8 r.e,.u8 r.h,.u8 r.l,.u8 r.a2,.u8 r.f2,.u8 r.b2,.u8 r.c2,.u8 r.d2,.u8 r.e2,.u8 r.h2,.u8 r.l2,.u16 r.ix,.u16 r.iy,.u16 r.sp,.u16 r.pc,.u16 r.wz,.u8 r.i,.u8 r.r,.u8 r.im,.u8 r.pre,.bo r.iff1,.bo r.iff2,.bo r.hlt,.bo r.dly]
def Rg.right (r:Rg):Bool:=decide (r.im≤2#8)&&(r.pre==0#8||r.pre==0xDD#8||r.pre==0xFD#8)
inductive Eff (α:Type):Type where
  | ret (x:α)
  | rd (a:BitVec 16) (k:BitVec 8→Eff α)
  | wr (a:BitVec 16) (v:BitVec 8) (k:Eff α)
  | inp (p:BitVec 16) (t:Int) (k:BitVec 8→Eff α)
  | out (p:BitVec 16) (v:BitVec 8) (t:Int) (k:Eff α)
def Eff.bind {α β:Type}:Eff α→(α→Eff β)→Eff β
  | .ret x,g=>g x
  | .rd a k,g=>.rd a fun v=>(k v).bind g
  | .wr a v k,g=>.wr a v (k.bind g)
  | .inp p t k,g=>.inp p t fun v=>(k v).bind g
  | .out p v t k,g=>.out p v t (k.bind g)
structure Ops (σ:Type) where
  rd:σ→BitVec 16→BitVec 8×σ
  wr:σ→BitVec 16→BitVec 8→σ
  inp:σ→BitVec 16→Int→BitVec 8×σ
  out:σ→BitVec 16→BitVec 8→Int→σ
def Eff.run {α σ:Type} (O:Ops σ):Eff α→σ→α×σ
  | .ret x,s=>(x,s)
  | .rd a k,s=>(k (O.rd s a).1).run O (O.rd s a).2
  | .wr a v k,s=>k.run O (O.wr s a v)
  | .inp p t k,s=>(k (O.inp s p t).1).run O (O.inp s p t).2
  | .out p v t k,s=>k.run O (O.out s p v t)
theorem Eff.run_bind {α β σ:Type} (O:Ops σ):∀(m:Eff α) (g:α→Eff β) (s:σ),(m.bind g).run O s=(g (m.run O s).1).run O (m.run O s).2
  | .ret _,_,_=>rfl
  | .rd a k,g,s=>Eff.run_bind O (k (O.rd s a).1) g _
  | .wr _ _ k,g,_=>Eff.run_bind O k g _
  | .inp p t k,g,s=>Eff.run_bind O (k (O.inp s p t).1) g _
  | .out _ _ _ k,g,_=>Eff.run_bind O k g _
def rdE (a:BitVec 16):Eff (BitVec 8):=.rd a .ret
def wrE (a:BitVec 16) (v:BitVec 8):Eff Unit:=.wr a v (.ret ())
def inE (p:BitVec 16) (t:Int):Eff (BitVec 8):=.inp p t .ret
def outE (p:BitVec 16) (v:BitVec 8) (t:Int):Eff Unit:=.out p v t (.ret ())
def joinS (hi lo:BitVec 8):BitVec 16:=hi.setWidth 16<<<8|||lo.setWidth 16
def hiS (v:BitVec 16):BitVec 8:=(v>>>8).setWidth 8
def loS (v:BitVec 16):BitVec 8:=v.setWidth 8
def moveS (v:BitVec 16) (by_:BitVec 8):BitVec 16:=v+by_.signExtend 16
def shapeS (v:BitVec 8):BitVec 8:=v&&&168#8|||(if v==0#8 then 64#8 else 0#8)
def onesS (v:BitVec 8):Nat:=((List.range 8).filter fun i=>v.getLsbD i).length
def parityS (v:BitVec 8):Bool:=onesS v%2==0
def bit16 (c:Bool):BitVec 16:=if c then 1#16 else 0#16
def addS (a b:BitVec 8) (c:Bool):BitVec 8×BitVec 8:=
  let sum:=a.setWidth 16+b.setWidth 16+bit16 c
  let v:BitVec 8:=sum.setWidth 8
  (v,(shapeS v|||(sum>>>8).setWidth 8*1#8)|||((a^^^b^^^v)&&&16#8)|||((((a^^^v)&&&(b^^^v))>>>5)&&&4#8))
def subS (a b:BitVec 8) (c:Bool):BitVec 8×BitVec 8:=((addS a (~~~b) (!c)).1,(addS a (~~~b) (!c)).2^^^17#8|||2#8)
def logicS (v:BitVec 8):BitVec 8:=shapeS v|||(if parityS v then 4#8 else 0#8)
def compareS (a b:BitVec 8):BitVec 8:=(subS a b false).2&&& ~~~40#8|||b&&&40#8
def doS (op:Nat) (a b f:BitVec 8):BitVec 8×BitVec 8:=
  let c:=(f&&&1#8)!=0#8
  if op%8=0 then addS a b false else if op%8=1 then addS a b c else if op%8=2 then subS a b false else if op%8=3 then subS a b c
  else if op%8=4 then(a&&&b,logicS (a&&&b)|||16#8) else if op%8=5 then(a^^^b,logicS (a^^^b)) else if op%8=6 then(a|||b,logicS (a|||b)) else(a,compareS a b)
def incS (v f:BitVec 8):BitVec 8×BitVec 8:=((addS v 1#8 false).1,(addS v 1#8 false).2&&& ~~~1#8|||f&&&1#8)
def decS (v f:BitVec 8):BitVec 8×BitVec 8:=((subS v 1#8 false).1,(subS v 1#8 false).2&&& ~~~1#8|||f&&&1#8)
def daaS (a f:BitVec 8):BitVec 8×BitVec 8:=
  let mend:BitVec 8:=(if(f&&&16#8)!=0#8||decide (9#8<a&&&15#8) then 6#8 else 0#8)|||(if(f&&&1#8)!=0#8||decide (0x99#8<a) then 0x60#8 else 0#8)
  let v:=if(f&&&2#8)!=0#8 then a-mend else a+mend
  (v,logicS v|||f&&&2#8|||(if decide (0x60#8≤mend) then 1#8 else 0#8)|||(a^^^v)&&&16#8)
def flipS (op:Nat) (a f:BitVec 8):BitVec 8×BitVec 8:=
  let kept:=f&&&196#8
  if op=0 then(~~~a,kept|||f&&&1#8|||16#8|||2#8||| ~~~a&&&40#8)
  else if op=1 then(a,kept|||1#8|||a&&&40#8)
  else if op=2 then(a,kept|||(if(f&&&1#8)==0#8 then 1#8 else 0#8)|||(if(f&&&1#8)!=0#8 then 16#8 else 0#8)|||a&&&40#8)
  else(a,f)
def halfS (a b v:BitVec 16):BitVec 8:=((a^^^b^^^v)>>>8).setWidth 8&&&16#8
def add16 (a b:BitVec 16) (f:BitVec 8):BitVec 16×BitVec 8:=
  let sum:BitVec 32:=a.setWidth 32+b.setWidth 32
  let v:BitVec 16:=sum.setWidth 16
  (v,f&&&196#8|||(v>>>8).setWidth 8&&&40#8|||halfS a b v|||(sum>>>16).setWidth 8*1#8)
def full16 (a b:BitVec 16) (c:BitVec 32):BitVec 16×BitVec 8:=
  let sum:BitVec 32:=a.setWidth 32+b.setWidth 32+c
  let v:BitVec 16:=sum.setWidth 16
  let f:BitVec 8:=(v>>>8).setWidth 8&&&168#8|||halfS a b v|||(sum>>>16).setWidth 8*1#8
  let g:=f|||(((a^^^v)&&&(b^^^v))>>>13).setWidth 8&&&4#8
  (v,if v==0#16 then g|||64#8 else g)
def adc16 (a b:BitVec 16) (f:BitVec 8):BitVec 16×BitVec 8:=full16 a b ((f&&&1#8).setWidth 32)
def sbc16 (a b:BitVec 16) (f:BitVec 8):BitVec 16×BitVec 8:=((full16 a (~~~b) ((~~~f&&&1#8).setWidth 32)).1,(full16 a (~~~b) ((~~~f&&&1#8).setWidth 32)).2^^^17#8|||2#8)
def turnS (op:Nat) (v f:BitVec 8):BitVec 8×BitVec 8:=
  let top:=v>>>7
  let carry:=f&&&1#8
  if op%8=0 then(v.rotateLeft 1,top) else if op%8=1 then(v.rotateLeft 7,v&&&1#8) else if op%8=2 then(v<<<1|||carry,top) else if op%8=3 then(v>>>1|||carry<<<7,v&&&1#8)
  else if op%8=4 then(v<<<1,top) else if op%8=5 then(v>>>1|||top<<<7,v&&&1#8) else if op%8=6 then(v<<<1|||1#8,top) else(v>>>1,v&&&1#8)
def saidS (v:BitVec 8):BitVec 8:=if parityS v then shapeS v|||4#8 else shapeS v
def rotS (op:Nat) (v f:BitVec 8):BitVec 8×BitVec 8:=((turnS op v f).1,saidS (turnS op v f).1|||(turnS op v f).2*1#8)
def quickS (op:Nat) (a f:BitVec 8):BitVec 8×BitVec 8:=((turnS (op%4) a f).1,f&&&196#8|||(turnS (op%4) a f).1&&&40#8|||(turnS (op%4) a f).2*1#8)
def bitS8 (n:Nat) (v f from_:BitVec 8):BitVec 8:=
  let g:=f&&&1#8|||16#8|||from_&&&40#8
  let bit:=v&&&(1#8<<<(n%8))
  if bit==0#8 then g|||64#8|||4#8 else g|||bit&&&128#8
def putS8 (n:Nat) (v:BitVec 8) (on:Bool):BitVec 8:=if on then v|||(1#8<<<(n%8)) else v&&& ~~~(1#8<<<(n%8))
def digitsS (left:Bool) (a m f:BitVec 8):BitVec 8×BitVec 8×BitVec 8:=
  let b:=if left then a&&&0xF0#8|||m>>>4 else a&&&0xF0#8|||m&&&0x0F#8
  let n:=if left then m<<<4|||a&&&0x0F#8 else a<<<4|||m>>>4
  (b,n,saidS b|||f&&&1#8)
def oddS (n:BitVec 8):BitVec 8:=n<<<4&&&32#8|||n&&&8#8
def moreS (left:BitVec 16):BitVec 8:=if left==0#16 then 0#8 else 4#8
def repLoad (a v f:BitVec 8) (left:BitVec 16):BitVec 8:=f&&&193#8|||moreS left|||oddS (a+v)
def repSeek (a v f:BitVec 8) (left:BitVec 16):BitVec 8×Bool:=
  let n:=(subS a v false).1
  let g:=(subS a v false).2
  let half:=g&&&16#8
  (g&&&194#8|||half|||f&&&1#8|||moreS left|||oddS (n-half / 16#8),left !=0#16&&(g&&&64#8)==0#8)
def repPort (v with_ b:BitVec 8):BitVec 8:=
  let sum:=v.setWidth 16+with_.setWidth 16
  let f:=shapeS b|||v>>>7*2#8
  let f1:=if decide (255#16<sum) then f|||17#8 else f
  if parityS ((sum.setWidth 8&&&7#8)^^^b) then f1|||4#8 else f1
end Go.Proofs.Joy
namespace Go.Proofs.Joy
open Go.Ab
set_option maxHeartbeats 1000000
def idxS (pr:BitVec 8):Nat:=if pr==0xDD#8 then 5 else if pr==0xFD#8 then 6 else 2
def pairR (r:Rg) (n:Nat):BitVec 16:=
  if n=0 then joinS r.b r.c else if n=1 then joinS r.d r.e else if n=2 then joinS r.h r.l else if n=3 then r.sp else if n=4 then joinS r.a r.f else if n=5 then r.ix else if n=6 then r.iy else 0#16
def setPairR (r:Rg) (n:Nat) (v:BitVec 16):Rg:=
  if n=0 then { r with b:=hiS v,c:=loS v} else if n=1 then { r with d:=hiS v,e:=loS v} else if n=2 then { r with h:=hiS v,l:=loS v} else if n=3 then { r with sp:=v}
  else if n=4 then { r with a:=hiS v,f:=loS v} else if n=5 then { r with ix:=v} else if n=6 then { r with iy:=v} else r
def oneR (r:Rg) (n:Nat) (pr:BitVec 8):BitVec 8:=
  if n=0 then r.b else if n=1 then r.c else if n=2 then r.d else if n=3 then r.e else if n=4 then hiS (pairR r (idxS pr)) else if n=5 then loS (pairR r (idxS pr)) else if n=7 then r.a else 0#8
def setOneR (r:Rg) (n:Nat) (pr v:BitVec 8):Rg:=
  if n=0 then { r with b:=v} else if n=1 then { r with c:=v} else if n=2 then { r with d:=v} else if n=3 then { r with e:=v}
  else if n=4 then setPairR r (idxS pr) (joinS v (loS (pairR r (idxS pr)))) else if n=5 then setPairR r (idxS pr) (joinS (hiS (pairR r (idxS pr))) v) else if n=7 then { r with a:=v} else r
def swapR (r:Rg) (all:Bool):Rg:=
  if all then { r with b:=r.b2,c:=r.c2,d:=r.d2,e:=r.e2,h:=r.h2,l:=r.l2,b2:=r.b,c2:=r.c,d2:=r.d,e2:=r.e,h2:=r.h,l2:=r.l}
  else { r with a:=r.a2,f:=r.f2,a2:=r.a,f2:=r.f}
def tickR (r:Rg):Rg:={ r with r:=r.r&&&128#8|||(r.r+1#8)&&&127#8}
def flagOf (k:Nat):BitVec 8:=if k=0 then 64#8 else if k=1 then 1#8 else if k=2 then 4#8 else 128#8
def metR (f:BitVec 8) (k:Nat):Bool:=((f&&&flagOf (k / 2))!=0#8)==decide (k%2=1)
structure Core where
  r:Rg
  pr:BitVec 8
abbrev CM (α:Type):=Core→Eff (α×Core)
def whichS (pr:BitVec 8) (n:Nat):Nat:=if n=2 then idxS pr else n
def Core.pair (c:Core) (n:Nat):BitVec 16:=pairR c.r (whichS c.pr n)
def Core.setPair (c:Core) (n:Nat) (v:BitVec 16):Core:={ c with r:=setPairR c.r (whichS c.pr n) v}
def Core.one (c:Core) (n:Nat):BitVec 8:=oneR c.r n c.pr
def Core.setOne (c:Core) (n:Nat) (v:BitVec 8):Core:={ c with r:=setOneR c.r n c.pr v}
def Core.to (c:Core) (a:BitVec 16):Core:={ c with r:={ c.r with pc:=a,wz:=a}}
def Core.wz (c:Core) (a:BitVec 16):Core:={ c with r:={ c.r with wz:=a}}
def Core.setF (c:Core) (f:BitVec 8):Core:={ c with r:={ c.r with f:=f}}
def Core.setAF (c:Core) (x:BitVec 8×BitVec 8):Core:={ c with r:={ c.r with a:=x.1,f:=x.2}}
def pushedS (p:Nat):Nat:=if p=3 then 4 else p
def longerS (pr:BitVec 8) (plain far:Nat):Nat:=if pr !=0#8 then far else plain
def toldS (v f:BitVec 8):BitVec 8:=if parityS v then f&&&1#8|||shapeS v|||4#8 else f&&&1#8|||shapeS v
def nextM:CM (BitVec 8):=fun c=>(rdE c.r.pc).bind fun v=>.ret (v,{ c with r:={ c.r with pc:=c.r.pc+1#16}})
def fetchM:CM (BitVec 8):=fun c=>nextM { c with r:=tickR c.r}
def wordM:CM (BitVec 16):=fun c=>(nextM c).bind fun lo=>(nextM lo.2).bind fun hi=>.ret (joinS hi.1 lo.1,hi.2)
def loadM (a:BitVec 16):CM (BitVec 16):=fun c=>(rdE a).bind fun lo=>(rdE (a+1#16)).bind fun hi=>.ret (joinS hi lo,c)
def storeM (a v:BitVec 16):CM Unit:=fun c=>(wrE a (loS v)).bind fun _=>(wrE (a+1#16) (hiS v)).bind fun _=>.ret ((),c)
def pushM (v:BitVec 16):CM Unit:=fun c=>(wrE (c.r.sp-1#16) (hiS v)).bind fun _=>(wrE (c.r.sp-1#16-1#16) (loS v)).bind fun _=>.ret ((),{ c with r:={ c.r with sp:=c.r.sp-1#16-1#16}})
def popM:CM (BitVec 16):=fun c=>(loadM c.r.sp c).bind fun v=>.ret (v.1,{ c with r:={ c.r with sp:=c.r.sp+2#16}})
def pointedM:CM (BitVec 16):=fun c=>
  if c.pr !=0#8 then(nextM c).bind fun d=>.ret (moveS (c.pair 2) d.1,⟨{ d.2.r with wz:=moveS (c.pair 2) d.1},0#8⟩)
  else .ret (c.pair 2,c)
def xO (op:BitVec 8):Nat:=(op>>>6).toNat
def yO (op:BitVec 8):Nat:=(op>>>3&&&7#8).toNat
def zO (op:BitVec 8):Nat:=(op&&&7#8).toNat
def bitsS (op v from_ f:BitVec 8):BitVec 8×Bool×BitVec 8:=
  if xO op=0 then((rotS (yO op) v f).1,true,(rotS (yO op) v f).2) else if xO op=1 then(v,false,bitS8 (yO op) v f from_) else(putS8 (yO op) v (decide (xO op=3)),true,f)
def turnedFarM:CM Nat:=fun c=>(pointedM c).bind fun a=>(nextM a.2).bind fun op=>(rdE a.1).bind fun v=>
  let t:=bitsS op.1 v (hiS op.2.r.wz) op.2.r.f
  let c1:=op.2.setF t.2.2
  if t.2.1=false then .ret (16,c1) else(wrE a.1 t.1).bind fun _=>.ret (19,if zO op.1=6 then c1 else c1.setOne (zO op.1) t.1)
def turnedM:CM Nat:=fun c=>if c.pr !=0#8 then turnedFarM c else(fetchM c).bind fun op=>
  if zO op.1=6 then(pointedM op.2).bind fun a=>(rdE a.1).bind fun v=>
    let t:=bitsS op.1 v (hiS a.2.r.wz) a.2.r.f
    let c1:=a.2.setF t.2.2
    if t.2.1=false then .ret (12,c1) else(wrE a.1 t.1).bind fun _=>.ret (15,c1)
  else
    let v:=op.2.one (zO op.1)
    let t:=bitsS op.1 v v op.2.r.f
    let c1:=op.2.setF t.2.2
    .ret (8,if t.2.1=false then c1 else c1.setOne (zO op.1) t.1)
def manyM (op:BitVec 8):CM Nat:=fun c=>
  let y:=yO op
  let z:=zO op
  let by_:BitVec 16:=if y%2=1 then ~~~0#16 else 1#16
  let hl:=c.pair 2
  let bc:=c.pair 0
  let fin:Bool→Core→Eff (Nat×Core):=fun on c=>
    let c1:Core:={ c with r:=setPairR c.r 2 (hl+by_)}
    if y<6∨on=false then .ret (16,c1)
    else
      let c2:Core:={ c1 with r:={ c1.r with pc:=c1.r.pc-2#16}}
      .ret (21,if z<2 then c2.wz (c2.r.pc+1#16) else c2)
  if z=0 then(rdE hl).bind fun v=>(wrE (c.pair 1) v).bind fun _=>
    let c1:=(c.setPair 1 (c.pair 1+by_)).setPair 0 (bc-1#16)
    fin (bc !=1#16) (c1.setF (repLoad c1.r.a v c1.r.f (bc-1#16)))
  else if z=1 then
    let c1:=(c.wz (c.r.wz+by_)).setPair 0 (bc-1#16)
    (rdE hl).bind fun v=>fin (repSeek c1.r.a v c1.r.f (bc-1#16)).2 (c1.setF (repSeek c1.r.a v c1.r.f (bc-1#16)).1)
  else if z=2 then
    let c1:=c.wz (bc+by_)
    (inE bc 13).bind fun v=>(wrE hl v).bind fun _=>
      let c2:Core:={ c1 with r:={ c1.r with b:=c1.r.b-1#8}}
      fin (c2.r.b !=0#8) (c2.setF (repPort v (c2.r.c+loS by_) c2.r.b))
  else(rdE hl).bind fun v=>
    let c2:Core:={ c with r:={ c.r with b:=c.r.b-1#8}}
    (outE (c2.pair 0) v 13).bind fun _=>
      let c3:=c2.wz (c2.pair 0+by_)
      fin (c3.r.b !=0#8) (c3.setF (repPort v (loS (hl+by_)) c3.r.b))
def specialM (y:Nat):CM Nat:=fun c=>
  if y=0 then .ret (9,{ c with r:={ c.r with i:=c.r.a}})
  else if y=1 then .ret (9,{ c with r:={ c.r with r:=c.r.a}})
  else if y=2∨y=3 then
    let a:=if y=3 then c.r.r else c.r.i
    let f:=c.r.f&&&1#8|||shapeS a
    .ret (9,{ c with r:={ c.r with a:=a,f:=if c.r.iff2 then f|||4#8 else f}})
  else if y=4∨y=5 then
    let a:=c.pair 2
    let c1:=c.wz (a+1#16)
    (rdE a).bind fun v=>
      let t:=digitsS (decide (y=5)) c1.r.a v c1.r.f
      (wrE a t.2.1).bind fun _=>.ret (18,c1.setAF (t.1,t.2.2))
  else .ret (8,c)
def imS (y:Nat):BitVec 8:=if y%4=2 then 1#8 else if y%4=3 then 2#8 else 0#8
def extendedM (op:BitVec 8):CM Nat:=fun c=>
  let y:=yO op
  let z:=zO op
  let p:=y / 2
  let q:=y%2
  if xO op=2∧3<y∧z<4 then manyM op c
  else if xO op≠1 then .ret (8,c)
  else if z=0 then
    let c1:=c.wz (c.pair 0+1#16)
    (inE (c1.pair 0) 9).bind fun v=>.ret (12,(c1.setF (toldS v c1.r.f)).setOne y v)
  else if z=1 then
    let c1:=c.wz (c.pair 0+1#16)
    (outE (c1.pair 0) (c1.one y) 9).bind fun _=>.ret (12,c1)
  else if z=2 then
    let v:=c.pair 2
    let c1:=c.wz (v+1#16)
    let t:=if q=1 then adc16 v (c1.pair p) c1.r.f else sbc16 v (c1.pair p) c1.r.f
    .ret (15,(c1.setPair 2 t.1).setF t.2)
  else if z=3 then(wordM c).bind fun a=>
    let c1:=a.2.wz (a.1+1#16)
    if q=0 then(storeM a.1 (c1.pair p) c1).bind fun x=>.ret (20,x.2) else(loadM a.1 c1).bind fun v=>.ret (20,v.2.setPair p v.1)
  else if z=4 then .ret (8,c.setAF (subS 0#8 c.r.a false))
  else if z=5 then(popM c).bind fun v=>
    let c1:=v.2.to v.1
    .ret (14,{ c1 with r:={ c1.r with iff1:=c1.r.iff2}})
  else if z=6 then .ret (8,{ c with r:={ c.r with im:=imS y}})
  else specialM y c
def moveM (op:BitVec 8):CM Nat:=fun c=>
  if yO op=6 then(pointedM c).bind fun a=>(wrE a.1 (a.2.one (zO op))).bind fun _=>.ret (longerS c.pr 7 15,a.2)
  else if zO op=6 then(pointedM c).bind fun a=>(rdE a.1).bind fun v=>.ret (longerS c.pr 7 15,a.2.setOne (yO op) v)
  else .ret (4,c.setOne (yO op) (c.one (zO op)))
def sumM (op:BitVec 8):CM Nat:=fun c=>
  if zO op=6 then(pointedM c).bind fun a=>(rdE a.1).bind fun v=>.ret (longerS c.pr 7 15,a.2.setAF (doS (yO op) a.2.r.a v a.2.r.f))
  else .ret (4,c.setAF (doS (yO op) c.r.a (c.one (zO op)) c.r.f))
def quickC (n:Nat) (c:Core):Core:=if n<4 then c.setAF (quickS n c.r.a c.r.f) else if n=4 then c.setAF (daaS c.r.a c.r.f) else c.setAF (flipS (n-5) c.r.a c.r.f)
def countM (op:BitVec 8):CM Nat:=fun c=>
  let by_:BitVec 8→BitVec 8→BitVec 8×BitVec 8:=if zO op=5 then decS else incS
  if yO op=6 then(pointedM c).bind fun a=>(rdE a.1).bind fun v=>(wrE a.1 (by_ v a.2.r.f).1).bind fun _=>.ret (longerS c.pr 11 19,a.2.setF (by_ v a.2.r.f).2)
  else .ret (4,(c.setOne (yO op) (by_ (c.one (yO op)) c.r.f).1).setF (by_ (c.one (yO op)) c.r.f).2)
def thereM (op:BitVec 8):CM Nat:=fun c=>
  let p:=yO op / 2
  let q:=yO op%2
  let fin:BitVec 16→Nat→CM Nat:=fun a clocks c=>
    let c1:=c.wz (a+1#16)
    if q=1 then(rdE a).bind fun v=>.ret (clocks,{ c1 with r:={ c1.r with a:=v}})
    else(wrE a c1.r.a).bind fun _=>.ret (clocks,c1.wz (joinS c1.r.a (loS (a+1#16))))
  if p<2 then fin (c.pair p) 7 c
  else if p=2 then(wordM c).bind fun a=>
    let c1:=a.2.wz (a.1+1#16)
    if q=0 then(storeM a.1 (c1.pair 2) c1).bind fun x=>.ret (16,x.2) else(loadM a.1 c1).bind fun v=>.ret (16,v.2.setPair 2 v.1)
  else(wordM c).bind fun a=>fin a.1 13 a.2
def jumpM (op:BitVec 8):CM Nat:=fun c=>
  let y:=yO op
  if y=0 then .ret (4,c)
  else if y=1 then .ret (4,{ c with r:=swapR c.r false})
  else
    let c1:Core:=if y=2 then { c with r:={ c.r with b:=c.r.b-1#8}} else c
    let met:Bool:=if y=2 then c1.r.b !=0#8 else if y=3 then true else metR c1.r.f (y-4)
    let clocks:=if y=2 then 8 else 7
    (nextM c1).bind fun e=>if met=false then .ret (clocks,e.2) else .ret (clocks+5,e.2.to (moveS e.2.r.pc e.1))
def lowM (op:BitVec 8):CM Nat:=fun c=>
  let z:=zO op
  let p:=yO op / 2
  let q:=yO op%2
  if z=0 then jumpM op c
  else if z=1 then
    if q=0 then(wordM c).bind fun v=>.ret (10,v.2.setPair p v.1)
    else
      let v:=c.pair 2
      let c1:=c.wz (v+1#16)
      let t:=add16 v (c1.pair p) c1.r.f
      .ret (11,(c1.setPair 2 t.1).setF t.2)
  else if z=2 then thereM op c
  else if z=3 then .ret (6,c.setPair p (if q=1 then c.pair p+1#16-2#16 else c.pair p+1#16))
  else if z=4∨z=5 then countM op c
  else if z=6 then
    if yO op=6 then(pointedM c).bind fun a=>(nextM a.2).bind fun v=>(wrE a.1 v.1).bind fun _=>.ret (longerS c.pr 10 15,v.2)
    else(nextM c).bind fun v=>.ret (7,v.2.setOne (yO op) v.1)
  else .ret (4,quickC (yO op) c)
def jumpToM (met:Bool):CM Unit:=fun c=>(wordM c).bind fun a=>let c1:=a.2.wz a.1; .ret ((),if met then { c1 with r:={ c1.r with pc:=a.1}} else c1)
def callM (met:Bool):CM Nat:=fun c=>(wordM c).bind fun a=>
  let c1:=a.2.wz a.1
  if met=false then .ret (10,c1) else(pushM c1.r.pc c1).bind fun x=>.ret (17,{ x.2 with r:={ x.2.r with pc:=x.2.r.wz}})
def backM (op:BitVec 8):CM Nat:=fun c=>
  let p:=yO op / 2
  if yO op%2=0 then(popM c).bind fun v=>.ret (10,v.2.setPair (pushedS p) v.1)
  else if p=0 then(popM c).bind fun v=>.ret (10,v.2.to v.1)
  else if p=1 then .ret (4,{ c with r:=swapR c.r true})
  else if p=2 then .ret (4,{ c with r:={ c.r with pc:=c.pair 2}})
  else .ret (6,{ c with r:={ c.r with sp:=c.pair 2}})
def othersM (op:BitVec 8):CM Nat:=fun c=>
  let y:=yO op
  if y=0 then(jumpToM true c).bind fun x=>.ret (10,x.2)
  else if y=2 then(nextM c).bind fun n=>(outE (joinS n.2.r.a n.1) n.2.r.a 8).bind fun _=>.ret (11,n.2.wz (joinS n.2.r.a (n.1+1#8)))
  else if y=3 then(nextM c).bind fun n=>
    let port:=joinS c.r.a n.1
    let c1:=n.2.wz (port+1#16)
    (inE port 8).bind fun v=>.ret (11,{ c1 with r:={ c1.r with a:=v}})
  else if y=4 then(loadM c.r.sp c).bind fun v=>
    let c1:=v.2.wz v.1
    (storeM c1.r.sp (c1.pair 2) c1).bind fun x=>.ret (19,x.2.setPair 2 x.2.r.wz)
  else if y=5 then .ret (4,{ c with r:={ c.r with d:=c.r.h,e:=c.r.l,h:=c.r.d,l:=c.r.e}})
  else .ret (4,{ c with r:={ c.r with iff1:=decide (y=7),iff2:=decide (y=7),dly:=decide (y=7)}})
def highM (op:BitVec 8):CM Nat:=fun c=>
  let y:=yO op
  let z:=zO op
  let met:=metR c.r.f y
  if z=0 then(if met=false then .ret (5,c) else(popM c).bind fun v=>.ret (11,v.2.to v.1))
  else if z=1 then backM op c
  else if z=2 then(jumpToM met c).bind fun x=>.ret (10,x.2)
  else if z=3 then othersM op c
  else if z=4 then callM met c
  else if z=5 then(if y%2=1 then callM true c else(pushM (c.pair (pushedS (y / 2))) c).bind fun x=>.ret (11,x.2))
  else if z=6 then(nextM c).bind fun v=>.ret (7,v.2.setAF (doS y c.r.a v.1 c.r.f))
  else(pushM c.r.pc c).bind fun x=>.ret (11,x.2.to (BitVec.ofNat 16 (8*y)))
def plainM (op:BitVec 8):CM Nat:=fun c=>
  if xO op=0 then lowM op c
  else if xO op=1∧yO op=6∧zO op=6 then .ret (4,{ c with r:={ c.r with hlt:=true}})
  else if xO op=1 then moveM op c
  else if xO op=2 then sumM op c
  else highM op c
def stepE (r:Rg):Eff (Rg×Nat):=
  if r.hlt then .ret (tickR r,4) else
  (fetchM ⟨{ r with dly:=false,pre:=0#8},0#8⟩).bind fun op=>
    if op.1==0xDD#8||op.1==0xFD#8 then .ret ({ op.2.r with pre:=op.1},4)
    else if op.1==0xED#8 then(fetchM op.2).bind fun o2=>(extendedM o2.1 o2.2).bind fun x=>.ret (x.2.r,x.1)
    else if op.1==0xCB#8 then(turnedM { op.2 with pr:=r.pre}).bind fun x=>.ret (x.2.r,x.1)
    else(plainM op.1 { op.2 with pr:=r.pre}).bind fun x=>.ret (x.2.r,x.1)
end Go.Proofs.Joy
namespace Go.Proofs.Joy
def swap1 (r:Rg) (j:Nat):Rg:=
  match j with
  | 0=>{ r with a:=r.a2,a2:=r.a} | 1=>{ r with f:=r.f2,f2:=r.f} | 2=>{ r with b:=r.b2,b2:=r.b} | 3=>{ r with c:=r.c2,c2:=r.c}
  | 4=>{ r with d:=r.d2,d2:=r.d} | 5=>{ r with e:=r.e2,e2:=r.e} | 6=>{ r with h:=r.h2,h2:=r.h} | 7=>{ r with l:=r.l2,l2:=r.l} | _=>r
def swapTo (r:Rg) (all:Bool):Nat→Rg
  | 0=>r
  | j+1=>if all=decide (1<j) then swap1 (swapTo r all j) j else swapTo r all j
theorem swapTo_all (r:Rg) (all:Bool):swapTo r all 8=swapR r all:=by cases all <;> rfl
end Go.Proofs.Joy
namespace Go.Proofs.Joy
open Go.Ab
set_option maxHeartbeats 1000000
structure WC (P:Program) (σ:Type) where
  O:Ops σ
  v:AV
  kr:FuncId
  kw:FuncId
  ki:FuncId
  ko:FuncId
  rep:σ→Heap→Nat→(Nat→Prop)→Prop
  left:σ→Nat
  lrd:∀s a,left s≤left (O.rd s a).2+1
  lwr:∀s a x,left s≤left (O.wr s a x)+1
  lin:∀s p u,left s≤left (O.inp s p u).2+1
  lout:∀s p x u,left s≤left (O.out s p x u)+1
  vok:∀ {s H n F},rep s H n F→v.ok n=true
  low:∀ {s H n F i},rep s H n F→F i→i<n
  stable:∀ {s H n F H' n'},rep s H n F→(∀i,F i→H' i=H i)→n≤n'→rep s H' n' F
  read:∀ {s:σ} {a:BitVec 16} {H:Heap} {n:Nat} {F:Nat→Prop} {K:AV→Heap→Nat→Prop},1≤left s→rep s H n F→(∀H' n' F',H'.wf n'→n≤n'→rep (O.rd s a).2 H' n' F'→(∀i,F' i→F i∨n≤i)→(∀i,i<n→¬F i→H' i=H i)→K (.u8 (O.rd s a).1) H' n')→ACalls P kr [v,.u16 a] H n K
  write:∀ {s:σ} {a:BitVec 16} {x:BitVec 8} {H:Heap} {n:Nat} {F:Nat→Prop} {K:AV→Heap→Nat→Prop},1≤left s→rep s H n F→(∀H' n' F',H'.wf n'→n≤n'→rep (O.wr s a x) H' n' F'→(∀i,F' i→F i∨n≤i)→(∀i,i<n→¬F i→H' i=H i)→K (.tu []) H' n')→ACalls P kw [v,.u16 a,.u8 x] H n K
  inp:∀ {s:σ} {p:BitVec 16} {t:Int} {H:Heap} {n:Nat} {F:Nat→Prop} {K:AV→Heap→Nat→Prop},0≤t∧t≤100→1≤left s→rep s H n F→(∀H' n' F',H'.wf n'→n≤n'→rep (O.inp s p t).2 H' n' F'→(∀i,F' i→F i∨n≤i)→(∀i,i<n→¬F i→H' i=H i)→K (.u8 (O.inp s p t).1) H' n')→ACalls P ki [v,.u16 p,.i64 t] H n K
  out:∀ {s:σ} {p:BitVec 16} {x:BitVec 8} {t:Int} {H:Heap} {n:Nat} {F:Nat→Prop} {K:AV→Heap→Nat→Prop},0≤t∧t≤100→1≤left s→rep s H n F→(∀H' n' F',H'.wf n'→n≤n'→rep (O.out s p x t) H' n' F'→(∀i,F' i→F i∨n≤i)→(∀i,i<n→¬F i→H' i=H i)→K (.tu []) H' n')→ACalls P ko [v,.u16 p,.u8 x,.i64 t] H n K
structure MT {P:Program} {σ:Type} (W:WC P σ) (t:TypeId):Prop where
  r:mthT P t "Read" =some W.kr
  w:mthT P t "Write" =some W.kw
  i:mthT P t "In" =some W.ki
  o:mthT P t "Out" =some W.ko
structure At {P:Program} {σ:Type} (W:WC P σ) (T t:TypeId) (H0:Heap) (n0:Nat) (F0:Nat→Prop) (k:Nat) (c:Core) (s:σ) (H:Heap) (n:Nat):Prop where
  wf:H.wf n
  le:n0≤n
  blk:H k=some ⟨c.r.cells++[.ifc t W.v,.u8 c.pr],T,false⟩
  fp:∃F,W.rep s H n F∧¬F k∧∀i,F i→F0 i∨n0≤i
  fr:∀i,i<n0→i≠k→¬F0 i→H i=H0 i
variable {P:Program} {σ:Type} {W:WC P σ} {T t:TypeId} {H0:Heap} {n0:Nat} {F0:Nat→Prop} {k:Nat} {c:Core} {s:σ} {H:Heap} {n:Nat}
theorem cells_ok (c:Core) (n:Nat):∀v∈c.r.cells,v.ok n=true:=by
  intro v hv
  simp only[Rg.cells,List.mem_cons,List.not_mem_nil,or_false] at hv
  rcases hv with rfl | rfl | rfl | rfl | rfl | rfl | rfl | rfl | rfl | rfl | rfl | rfl | rfl | rfl | rfl | rfl | rfl | rfl | rfl | rfl | rfl | rfl | rfl | rfl | rfl | rfl | rfl | rfl | rfl <;> rfl
theorem At.kn (A:At W T t H0 n0 F0 k c s H n):k<n:=(A.wf _ _ A.blk).1
theorem At.vok (A:At W T t H0 n0 F0 k c s H n):W.v.ok n=true:=let⟨_,h,_⟩:=A.fp; W.vok h
theorem core_ok (A:At W T t H0 n0 F0 k c s H n) (c':Core):∀v∈c'.r.cells++[.ifc t W.v,.u8 c'.pr],v.ok n=true:=by
  intro v hv
  rcases List.mem_append.1 hv with hv | hv
  · exact cells_ok _ _ v hv
  · simp only[List.mem_cons,List.not_mem_nil,or_false] at hv
    rcases hv with rfl | rfl
    · exact A.vok
    · rfl
theorem At.put (A:At W T t H0 n0 F0 k c s H n) (c':Core):At W T t H0 n0 F0 k c' s (H.upd k (some ⟨c'.r.cells++[.ifc t W.v,.u8 c'.pr],T,false⟩)) n:=
  let⟨F,h1,h2,h3⟩:=A.fp
  ⟨Heap.wf_set A.wf A.kn (core_ok A c'),A.le,Heap.upd_same _ _ _,⟨F,W.stable h1 (fun i hi=>Heap.upd_ne _ _ (fun e=>h2 (e▸hi))) (Nat.le_refl _),h2,h3⟩,fun i hi hk hF=>by rw[Heap.upd_ne _ _ hk]; exact A.fr i hi hk hF⟩
theorem At.mono (A:At W T t H0 n0 F0 k c s H n) {H':Heap} {n':Nat} (hw:H'.wf n') (hn:n≤n') (he:∀i,i<n→H' i=H i):At W T t H0 n0 F0 k c s H' n':=
  let⟨F,h1,h2,h3⟩:=A.fp
  ⟨hw,Nat.le_trans A.le hn,by rw[he _ A.kn]; exact A.blk,⟨F,W.stable h1 (fun i hi=>he i (W.low h1 hi)) hn,h2,h3⟩,fun i hi hk hF=>by rw[he i (Nat.lt_of_lt_of_le hi A.le)]; exact A.fr i hi hk hF⟩
theorem At.out (A:At W T t H0 n0 F0 k c s H n) {F:Nat→Prop} (h1:W.rep s H n F) (h2:¬F k) (h3:∀i,F i→F0 i∨n0≤i) {s':σ} {H':Heap} {n':Nat} {F':Nat→Prop} (hw:H'.wf n') (hn:n≤n') (hr:W.rep s' H' n' F') (hF:∀i,F' i→F i∨n≤i) (he:∀i,i<n→¬F i→H' i=H i):At W T t H0 n0 F0 k c s' H' n':=
  ⟨hw,Nat.le_trans A.le hn,by rw[he _ A.kn h2]; exact A.blk,⟨F',hr,fun hk=>by rcases hF _ hk with h | h; exact h2 h; exact Nat.lt_irrefl _ (Nat.lt_of_lt_of_le A.kn h),fun i hi=>by
      rcases hF i hi with h | h
      · exact h3 i h
      · exact .inr (Nat.le_trans A.le h)⟩,
    fun i hi hk hF0=>by
      rw[he i (Nat.lt_of_lt_of_le hi A.le) (fun h=>by rcases h3 i h with h | h; exact hF0 h; exact Nat.lt_irrefl _ (Nat.lt_of_lt_of_le hi h))]; exact A.fr i hi hk hF0⟩
theorem At.read (A:At W T t H0 n0 F0 k c s H n) {a:BitVec 16} {K:AV→Heap→Nat→Prop} (hl:1≤W.left s) (h:∀H' n',At W T t H0 n0 F0 k c (W.O.rd s a).2 H' n'→K (.u8 (W.O.rd s a).1) H' n'):ACalls P W.kr [W.v,.u16 a] H n K:=
  let⟨_,h1,h2,h3⟩:=A.fp
  W.read hl h1 fun H' n' _ hw hn hr hF he=>h H' n' (A.out h1 h2 h3 hw hn hr hF he)
theorem At.write (A:At W T t H0 n0 F0 k c s H n) {a:BitVec 16} {x:BitVec 8} {K:AV→Heap→Nat→Prop} (hl:1≤W.left s) (h:∀H' n',At W T t H0 n0 F0 k c (W.O.wr s a x) H' n'→K (.tu []) H' n'):ACalls P W.kw [W.v,.u16 a,.u8 x] H n K:=
  let⟨_,h1,h2,h3⟩:=A.fp
  W.write hl h1 fun H' n' _ hw hn hr hF he=>h H' n' (A.out h1 h2 h3 hw hn hr hF he)
theorem At.inp (A:At W T t H0 n0 F0 k c s H n) {p:BitVec 16} {u:Int} {K:AV→Heap→Nat→Prop} (hu:0≤u∧u≤100) (hl:1≤W.left s) (h:∀H' n',At W T t H0 n0 F0 k c (W.O.inp s p u).2 H' n'→K (.u8 (W.O.inp s p u).1) H' n'):ACalls P W.ki [W.v,.u16 p,.i64 u] H n K:=
  let⟨_,h1,h2,h3⟩:=A.fp
  W.inp hu hl h1 fun H' n' _ hw hn hr hF he=>h H' n' (A.out h1 h2 h3 hw hn hr hF he)
theorem At.outp (A:At W T t H0 n0 F0 k c s H n) {p:BitVec 16} {x:BitVec 8} {u:Int} {K:AV→Heap→Nat→Prop} (hu:0≤u∧u≤100) (hl:1≤W.left s) (h:∀H' n',At W T t H0 n0 F0 k c (W.O.out s p x u) H' n'→K (.tu []) H' n'):ACalls P W.ko [W.v,.u16 p,.u8 x,.i64 u] H n K:=
  let⟨_,h1,h2,h3⟩:=A.fp
  W.out hu hl h1 fun H' n' _ hw hn hr hF he=>h H' n' (A.out h1 h2 h3 hw hn hr hF he)
end Go.Proofs.Joy
namespace Go.Proofs.Joy
open Go.Ab
set_option maxHeartbeats 1000000
theorem Eff.run_of {α β σ:Type} {O:Ops σ} {m:Eff α} {g:α→Eff β} {s s1:σ} {x:α} {r:β×σ} (e:m.run O s=(x,s1)) (h:(g x).run O s1=r):(m.bind g).run O s=r:=by
  rw[Eff.run_bind,e]; exact h
section
variable {P:Program} {σ:Type} {W:WC P σ} {T t:TypeId} {H0:Heap} {n0:Nat} {F0:Nat→Prop} {k:Nat} {c:Core} {s:σ} {H:Heap} {n:Nat}
theorem At.put29 (A:At W T t H0 n0 F0 k c s H n) {a f b c_ d e h l a2 f2 b2 c2 d2 e2 h2 l2:BitVec 8} {ix iy sp pc wz:BitVec 16} {i r im pre:BitVec 8} {x1 x2 x3 x4:Bool} {pr:BitVec 8}:
    At W T t H0 n0 F0 k ⟨⟨a,f,b,c_,d,e,h,l,a2,f2,b2,c2,d2,e2,h2,l2,ix,iy,sp,pc,wz,i,r,im,pre,x1,x2,x3,x4⟩,pr⟩ s
      (H.upd k (some ⟨[.u8 a,.u8 f,.u8 b,.u8 c_,.u8 d,.u8 e,.u8 h,.u8 l,.u8 a2,.u8 f2,.u8 b2,.u8 c2,.u8 d2,.u8 e2,.u8 h2,.u8 l2,.u16 ix,.u16 iy,.u16 sp,.u16 pc,.u16 wz,.u8 i,.u8 r,.u8 im,.u8 pre,.bo x1,.bo x2,.bo x3,.bo x4,.ifc t W.v,.u8 pr],T,false⟩)) n:=
  A.put ⟨⟨a,f,b,c_,d,e,h,l,a2,f2,b2,c2,d2,e2,h2,l2,ix,iy,sp,pc,wz,i,r,im,pre,x1,x2,x3,x4⟩,pr⟩
theorem At.blk29 (A:At W T t H0 n0 F0 k c s H n):H k=some ⟨[.u8 c.r.a,.u8 c.r.f,.u8 c.r.b,.u8 c.r.c,.u8 c.r.d,.u8 c.r.e,.u8 c.r.h,.u8 c.r.l,.u8 c.r.a2,.u8 c.r.f2,.u8 c.r.b2,.u8 c.r.c2,.u8 c.r.d2,.u8 c.r.e2,.u8 c.r.h2,.u8 c.r.l2,.u16 c.r.ix,.u16 c.r.iy,.u16 c.r.sp,.u16 c.r.pc,.u16 c.r.wz,.u8 c.r.i,.u8 c.r.r,.u8 c.r.im,.u8 c.r.pre,.bo c.r.iff1,.bo c.r.iff2,.bo c.r.hlt,.bo c.r.dly,.ifc t W.v,.u8 c.pr],T,false⟩:=A.blk
theorem At.rd (A:At W T t H0 n0 F0 k c s H n) {a:BitVec 16} {K:AV→Heap→Nat→Prop} (hl:1≤W.left s) (h:∀v s' H' n',(rdE a).run W.O s=(v,s')→W.left s≤W.left s'+1→At W T t H0 n0 F0 k c s' H' n'→K (.u8 v) H' n'):ACalls P W.kr [W.v,.u16 a] H n K:=
  A.read hl fun H' n' A'=>h _ _ H' n' rfl (W.lrd _ _) A'
theorem At.wr (A:At W T t H0 n0 F0 k c s H n) {a:BitVec 16} {x:BitVec 8} {K:AV→Heap→Nat→Prop} (hl:1≤W.left s) (h:∀s' H' n',(wrE a x).run W.O s=((),s')→W.left s≤W.left s'+1→At W T t H0 n0 F0 k c s' H' n'→K (.tu []) H' n'):ACalls P W.kw [W.v,.u16 a,.u8 x] H n K:=
  A.write hl fun H' n' A'=>h _ H' n' rfl (W.lwr _ _ _) A'
theorem At.ip (A:At W T t H0 n0 F0 k c s H n) {p:BitVec 16} {u:Int} {K:AV→Heap→Nat→Prop} (hu:0≤u∧u≤100) (hl:1≤W.left s) (h:∀v s' H' n',(inE p u).run W.O s=(v,s')→W.left s≤W.left s'+1→At W T t H0 n0 F0 k c s' H' n'→K (.u8 v) H' n'):ACalls P W.ki [W.v,.u16 p,.i64 u] H n K:=
  A.inp hu hl fun H' n' A'=>h _ _ H' n' rfl (W.lin _ _ _) A'
theorem At.op (A:At W T t H0 n0 F0 k c s H n) {p:BitVec 16} {x:BitVec 8} {u:Int} {K:AV→Heap→Nat→Prop} (hu:0≤u∧u≤100) (hl:1≤W.left s) (h:∀s' H' n',(outE p x u).run W.O s=((),s')→W.left s≤W.left s'+1→At W T t H0 n0 F0 k c s' H' n'→K (.tu []) H' n'):ACalls P W.ko [W.v,.u16 p,.u8 x,.i64 u] H n K:=
  A.outp hu hl fun H' n' A'=>h _ H' n' rfl (W.lout _ _ _ _) A'
theorem At.boxed (A:At W T t H0 n0 F0 k c s H n) (bl:Blk) (hok:∀v∈bl.cells,v.ok (n+1)=true):
    ∃ F1,At W T t (H.upd n (some bl)) (n+1) F1 k c s (H.upd n (some bl)) (n+1)∧
      ∀ {c':Core} {s':σ} {H':Heap} {n':Nat},At W T t (H.upd n (some bl)) (n+1) F1 k c' s' H' n'→At W T t H0 n0 F0 k c' s' H' n'∧H' n=some bl∧n≠k∧n<n':=by
  obtain⟨F,h1,h2,h3⟩:=A.fp
  have hne:n≠k:=fun e=>Nat.lt_irrefl _ (e▸A.kn)
  have hFn:¬F n:=fun h=>Nat.lt_irrefl _ (W.low h1 h)
  refine⟨F,⟨Heap.wf_upd A.wf hok,Nat.le_refl _,by rw[Heap.upd_ne _ _ (Ne.symm hne)]; exact A.blk,⟨F,W.stable h1 (fun i hi=>Heap.upd_ne _ _ (fun e=>hFn (e▸hi))) (Nat.le_succ _),h2,fun i hi=>.inl hi⟩,fun _ _ _ _=>rfl⟩,?_⟩
  intro c' s' H' n' B
  obtain⟨F',g1,g2,g3⟩:=B.fp
  refine⟨⟨B.wf,Nat.le_trans A.le (Nat.le_trans (Nat.le_succ _) B.le),B.blk,⟨F',g1,g2,fun i hi=>?_⟩,fun i hi hk hF=>?_⟩,?_,hne,Nat.lt_of_lt_of_le (Nat.lt_succ_self _) B.le⟩
  · rcases g3 i hi with h | h
    · exact h3 i h
    · exact .inr (Nat.le_trans A.le (Nat.le_trans (Nat.le_succ _) h))
  · have hin:i<n:=Nat.lt_of_lt_of_le hi A.le
    rw[B.fr i (Nat.lt_succ_of_lt hin) hk (fun h=>by rcases h3 i h with h | h; exact hF h; omega),Heap.upd_ne _ _ (Nat.ne_of_lt hin)]
    exact A.fr i hi hk hF
  · rw[B.fr n (Nat.lt_succ_self _) hne hFn,Heap.upd_same]
end
end Go.Proofs.Joy
namespace Go.Proofs.Joy
theorem Eff.run_t {α σ:Type} {O:Ops σ} {p:Prop} [Decidable p] {x y:Eff α} {s:σ} {r:α×σ} (hp:p) (h:x.run O s=r):(if p then x else y).run O s=r:=by rw[if_pos hp]; exact h
theorem Eff.run_f {α σ:Type} {O:Ops σ} {p:Prop} [Decidable p] {x y:Eff α} {s:σ} {r:α×σ} (hp:¬p) (h:y.run O s=r):(if p then x else y).run O s=r:=by rw[if_neg hp]; exact h
theorem dT {p:Prop} [Decidable p] (h:decide p=true):p:=of_decide_eq_true h
theorem dF {p:Prop} [Decidable p] (h:decide p=false):¬p:=of_decide_eq_false h
theorem nF {b:Bool} (h:b=false):¬b=true:=by rw[h]; decide
theorem nT {b:Bool} (h:b=true):¬b=false:=by rw[h]; decide
end Go.Proofs.Joy
namespace Go.Proofs.Joy
theorem iT {x y:Int} (h:(x !=y)=true):¬x=y:=by simpa using h
theorem iF {x y:Int} (h:(x !=y)=false):x=y:=by simpa using h
end Go.Proofs.Joy
namespace Go.Proofs.Joy
theorem nbT {b:Bool} (h:(!b)=true):b=false:=by cases b <;> simp_all
theorem nbF {b:Bool} (h:(!b)=false):b=true:=by cases b <;> simp_all
open Go Go.Ab Go.Proofs in
theorem wrap_sub {y j:Nat} (hj:j≤y) (hy:y<8):wrap64 ((y:Int)-(j:Int))=((y-j:Nat):Int):=by
  have h:∀y j:Fin 8,j.val≤y.val→wrap64 ((y.val:Int)-(j.val:Int))=((y.val-j.val:Nat):Int):=by decide
  exact h ⟨y,hy⟩ ⟨j,by omega⟩ hj
end Go.Proofs.Joy
namespace Go.Proofs.Joy
end Go.Proofs.Joy
namespace Go.Proofs.Joy
open Go.Ab
section
variable {P:Program} {σ:Type} {W:WC P σ} {T t:TypeId} {k:Nat} {c:Core} {s:σ} {H:Heap} {n:Nat} {F:Nat→Prop}
theorem At.start (hw:H.wf n) (hr:W.rep s H n F) (b0 b1:Blk) (h0:∀m,∀v∈b0.cells,v.ok m=true) (h1:∀m,∀v∈b1.cells,v.ok m=true) (c:Core):
    At W T t ((H.upd n (some b0)).upd (n+1) (some b1)) (n+2) F (n+2) c s (((H.upd n (some b0)).upd (n+1) (some b1)).upd (n+2) (some ⟨c.r.cells++[.ifc t W.v,.u8 c.pr],T,false⟩)) (n+3):=by
  have hv:∀m,n≤m→W.v.ok m=true:=fun m hm=>AV.ok_mono hm _ (W.vok hr)
  refine⟨Heap.wf_upd (Heap.wf_upd (Heap.wf_upd hw (h0 _)) (h1 _)) (fun v hv'=>?_),by omega,Heap.upd_same _ _ _,⟨F,W.stable hr (fun i hi=>?_) (by omega),fun h=>?_,fun i hi=>.inl hi⟩,fun i hi hk _=>Heap.upd_ne _ _ hk⟩
  · rcases List.mem_append.1 hv' with hv' | hv'
    · exact cells_ok _ _ v hv'
    · simp only[List.mem_cons,List.not_mem_nil,or_false] at hv'
      rcases hv' with rfl | rfl
      · exact hv _ (by omega)
      · rfl
  · have:=W.low hr hi
    rw[Heap.upd_ne _ _ (by omega),Heap.upd_ne _ _ (by omega),Heap.upd_ne _ _ (by omega)]
  · have:=W.low hr h; omega
theorem At.done {b0 b1:Blk} (hr:W.rep s H n F) {s':σ} {H':Heap} {n':Nat} (A:At W T t ((H.upd n (some b0)).upd (n+1) (some b1)) (n+2) F (n+2) c s' H' n') (b:Blk) (hb:∀m,∀v∈b.cells,v.ok m=true):
    (H'.upd (n+1) (some b)).wf n'∧n≤n'∧∃F',W.rep s' (H'.upd (n+1) (some b)) n' F'∧(∀i,F' i→F i∨n≤i)∧∀i,i<n→¬F i→(H'.upd (n+1) (some b)) i=H i:=by
  obtain⟨F',g1,g2,g3⟩:=A.fp
  have hle:=A.le
  refine⟨Heap.wf_set A.wf (by omega) (hb _),by omega,F',W.stable g1 (fun i hi=>Heap.upd_ne _ _ fun e=>?_) (Nat.le_refl _),fun i hi=>?_,fun i hi hF=>?_⟩
  · rcases g3 i hi with h | h
    · have:=W.low hr h; omega
    · omega
  · rcases g3 i hi with h | h
    · exact .inl h
    · exact .inr (by omega)
  · rw[Heap.upd_ne _ _ (by omega),A.fr i (by omega) (by omega) hF,Heap.upd_ne _ _ (by omega),Heap.upd_ne _ _ (by omega)]
end
end Go.Proofs.Joy
namespace Go.Proofs.Joy
open Go.Ab
structure Bx where
  mem:List (BitVec 8)
  log:List Int
def bxO:Ops Bx where
  rd s a:=(s.mem.getD a.toNat 0#8,{ s with log:=s.log++[(a.toNat:Int)]})
  wr s a x:={ mem:=s.mem.set a.toNat x,log:=s.log++[wrap64 (wrap64 (1000000+wrap64 ((a.toNat:Int)*256))+(x.toNat:Int))]}
  inp s p u:=(BitVec.ofInt 8 (wrap64 (wrap64 ((p.toNat:Int)*7)+wrap64 (((s.log.length+1:Nat):Int)*13))),{ s with log:=s.log++[wrap64 (wrap64 (100000000+wrap64 ((p.toNat:Int)*64))+u)]})
  out s p x u:={ s with log:=s.log++[wrap64 (wrap64 (1000000000+wrap64 (wrap64 (wrap64 ((p.toNat:Int)*64)+u)*256))+(x.toNat:Int))]}
def bxLeft (s:Bx):Nat:=4294967296-s.log.length
theorem bx_lrd (s:Bx) (a:BitVec 16):bxLeft s≤bxLeft (bxO.rd s a).2+1:=by simp only[bxLeft,bxO,List.length_append,List.length_cons,List.length_nil]; omega
theorem bx_lwr (s:Bx) (a:BitVec 16) (x:BitVec 8):bxLeft s≤bxLeft (bxO.wr s a x)+1:=by simp only[bxLeft,bxO,List.length_append,List.length_cons,List.length_nil]; omega
theorem bx_lin (s:Bx) (p:BitVec 16) (u:Int):bxLeft s≤bxLeft (bxO.inp s p u).2+1:=by simp only[bxLeft,bxO,List.length_append,List.length_cons,List.length_nil]; omega
theorem bx_lout (s:Bx) (p:BitVec 16) (x:BitVec 8) (u:Int):bxLeft s≤bxLeft (bxO.out s p x u)+1:=by simp only[bxLeft,bxO,List.length_append,List.length_cons,List.length_nil]; omega
end Go.Proofs.Joy
namespace Go.Proofs.Joy
open Go.Ab
@[irreducible] def memL (f:Nat→BitVec 8):List (BitVec 8):=(List.range 65536).map f
theorem memL_len (f:Nat→BitVec 8):(memL f).length=65536:=by unfold memL; rw[List.length_map,List.length_range]
theorem memL_getD (f:Nat→BitVec 8) {i:Nat} (h:i<65536):(memL f).getD i 0#8=f i:=by
  unfold memL
  rw[List.getD_eq_getElem?_getD,List.getElem?_map,List.getElem?_range h]; rfl
theorem mapSet (l:List Nat) (f:Nat→BitVec 8) (x:BitVec 8) (N j:Nat) (hl:l=List.range N):(l.map f).set j x=l.map (fun i=>if i=j then x else f i):=by
  subst hl
  apply List.ext_getElem
  · simp
  · intro i h1 h2
    rw[List.getElem_set]
    simp only[List.getElem_map,List.getElem_range]
    by_cases h:j=i
    · rw[if_pos h,if_pos h.symm]
    · rw[if_neg h,if_neg (Ne.symm h)]
theorem memL_set (f:Nat→BitVec 8) {j:Nat} (x:BitVec 8):(memL f).set j x=memL (fun i=>if i=j then x else f i):=by unfold memL; exact mapSet _ f x 65536 j rfl
theorem memL_congr {f g:Nat→BitVec 8} (h:∀i,i<65536→f i=g i):memL f=memL g:=by
  unfold memL
  exact List.map_congr_left fun i hi=>h i (List.mem_range.1 hi)
theorem memL_zero:memL (fun _=>0#8)=List.replicate 65536 0#8:=by
  unfold memL
  rw[List.map_const',List.length_range]
def fillS (fill:BitVec 8) (i:Nat):BitVec 8:=BitVec.ofNat 8 i*fill^^^BitVec.ofNat 8 (i / 256)
def codeS (at_:BitVec 16) (code:List (BitVec 8)) (fill:BitVec 8):Nat→Nat→BitVec 8
  | 0,i=>fillS fill i
  | j+1,i=>if i=(at_+BitVec.ofNat 16 j).toNat then code.getD j 0#8 else codeS at_ code fill j i
def boxS (at_:BitVec 16) (code:List (BitVec 8)) (fill:BitVec 8):Bx:=⟨memL (codeS at_ code fill code.length),[]⟩
end Go.Proofs.Joy
namespace Go.Proofs.Joy
open Go.Ab
def fnO:Ops ((Nat→BitVec 8)×List Int) where
  rd s a:=(s.1 a.toNat,(s.1,(bxO.rd ⟨[],s.2⟩ a).2.log))
  wr s a x:=(fun i=>if i=a.toNat then x else s.1 i,(bxO.wr ⟨[],s.2⟩ a x).log)
  inp s p u:=((bxO.inp ⟨[],s.2⟩ p u).1,(s.1,(bxO.inp ⟨[],s.2⟩ p u).2.log))
  out s p x u:=(s.1,(bxO.out ⟨[],s.2⟩ p x u).log)
theorem run_mem {α:Type}:∀(e:Eff α) (f:Nat→BitVec 8) (l:List Int),e.run bxO ⟨memL f,l⟩=((e.run fnO (f,l)).1,⟨memL (e.run fnO (f,l)).2.1,(e.run fnO (f,l)).2.2⟩)
  | .ret _,_,_=>rfl
  | .rd a k,f,l=>by
    have h1:(bxO.rd ⟨memL f,l⟩ a)=(f a.toNat,⟨memL f,l++[(a.toNat:Int)]⟩):=by
      show((memL f).getD a.toNat 0#8,_)=_
      rw[memL_getD f a.isLt]
    simp only[Eff.run,h1]
    exact run_mem (k (f a.toNat)) f _
  | .wr a v k,f,l=>by
    have h1:(bxO.wr ⟨memL f,l⟩ a v)=⟨memL (fun i=>if i=a.toNat then v else f i),(bxO.wr ⟨[],l⟩ a v).log⟩:=by
      show(⟨(memL f).set a.toNat v,_⟩:Bx)=_
      rw[memL_set]; rfl
    simp only[Eff.run,h1]
    exact run_mem k _ _
  | .inp p t k,f,l=>by simp only[Eff.run]; exact run_mem (k _) f _
  | .out p v t k,f,l=>by simp only[Eff.run]; exact run_mem k f _
theorem run_box {α:Type} {e:Eff α} {at_:BitVec 16} {code:List (BitVec 8)} {fill:BitVec 8} {x:α} {s2:Bx} (h:e.run bxO (boxS at_ code fill)=(x,s2)):(e.run fnO (codeS at_ code fill code.length,[])).1=x:=by
  unfold boxS at h
  rw[run_mem] at h
  exact congrArg Prod.fst h
def rg0:Rg:=⟨0#8,0#8,0#8,0#8,0#8,0#8,0#8,0#8,0#8,0#8,0#8,0#8,0#8,0#8,0#8,0#8,0#16,0#16,0#16,0#16,0#16,0#8,0#8,0#8,0#8,false,false,false,false⟩
theorem alive_eq:((stepE { rg0 with pc:=100#16}).run fnO (codeS 100#16 [0x3E#8,5#8] 0#8 2,[])).1=({ rg0 with a:=5#8,pc:=102#16,r:=1#8},7):=by decide +kernel
theorem box_left (at_:BitVec 16) (code:List (BitVec 8)) (fill:BitVec 8):6≤bxLeft (boxS at_ code fill):=by unfold bxLeft boxS; simp
end Go.Proofs.Joy
namespace Go.Proofs.Joy
open Go.Ab
set_option maxHeartbeats 1000000
def fetchedR (r:Rg):Rg:={ tickR { r with dly:=false,pre:=0#8} with pc:=r.pc+1#16}
theorem step_fetch (r:Rg) (f:Nat→BitVec 8) (l:List Int) (hh:r.hlt=false):∃l1:List Int,∀ {β:Type} (k:BitVec 8×Core→Eff β),((fetchM ⟨{ r with dly:=false,pre:=0#8},0#8⟩).bind k).run fnO (f,l)=(k (f r.pc.toNat,⟨fetchedR r,0#8⟩)).run fnO (f,l1):=
  ⟨_,fun _=>rfl⟩
theorem step_plain (r:Rg) (f:Nat→BitVec 8) (l:List Int) (op:BitVec 8) (hh:r.hlt=false) (ho:f r.pc.toNat=op) (h1:(op==0xDD#8||op==0xFD#8)=false) (h2:(op==0xED#8)=false) (h3:(op==0xCB#8)=false):
    ∃l1,(stepE r).run fnO (f,l)=((((plainM op ⟨fetchedR r,r.pre⟩).run fnO (f,l1)).1.2.r,((plainM op ⟨fetchedR r,r.pre⟩).run fnO (f,l1)).1.1),((plainM op ⟨fetchedR r,r.pre⟩).run fnO (f,l1)).2):=by
  obtain⟨l1,hl⟩:=step_fetch r f l hh
  refine⟨l1,?_⟩
  unfold stepE
  rw[if_neg (by rw[hh]; decide),hl]
  dsimp only
  rw[ho,if_neg (by rw[h1]; decide),if_neg (by rw[h2]; decide),if_neg (by rw[h3]; decide),Eff.run_bind]
  rfl
end Go.Proofs.Joy
namespace Go.Proofs.Joy
open Go.Ab
set_option maxHeartbeats 1000000
end Go.Proofs.Joy
namespace Go.Proofs.Joy
open Go.Ab
set_option maxHeartbeats 1000000
def pushB (x:BitVec 8) (b:Bool):BitVec 8:=if b then 2#8*x+1#8 else 2#8*x
def byteL (l:List Bool):BitVec 8:=l.foldl pushB 0#8
def byteF (s z y h x p n c:Bool):BitVec 8:=byteL [s,z,y,h,x,p,n,c]
def oneI (c:Bool):Int:=if c then 1 else 0
def sgnI (v:BitVec 8):Int:=if 128#8≤v then(v.toNat:Int)-256 else v.toNat
theorem sgn_le (v:BitVec 8): -128≤sgnI v∧sgnI v≤127:=by
  have:=v.isLt
  unfold sgnI
  split <;> rename_i h <;> simp[BitVec.le_def] at h <;> omega
theorem shape_bits (v:BitVec 8):shapeS v=(if decide (128#8≤v) then 128#8 else 0#8)|||(if v==0#8 then 64#8 else 0#8)|||(if v / 32#8%2#8==1#8 then 32#8 else 0#8)|||(if v / 8#8%2#8==1#8 then 8#8 else 0#8):=by revert v; decide +kernel
theorem and16 (x:BitVec 8):x&&&16#8=if x.getLsbD 4 then 16#8 else 0#8:=by revert x; decide +kernel
theorem and4 (x:BitVec 8):(x>>>5)&&&4#8=if x.getLsbD 7 then 4#8 else 0#8:=by revert x; decide +kernel
theorem bit4 (x:BitVec 8):x.getLsbD 4=decide (x.toNat / 16%2=1):=by revert x; decide +kernel
theorem bit7 (x:BitVec 8):x.getLsbD 7=decide (128≤x.toNat):=by revert x; decide +kernel
theorem add_val (a b:BitVec 8) (c:Bool):((addS a b c).1).toNat=(a.toNat+b.toNat+c.toNat)%256:=by
  have:=a.isLt
  have:=b.isLt
  unfold addS bit16
  cases c <;> simp[BitVec.toNat_add] <;> omega
theorem flags_or (s z y h x p n c:Bool):byteF s z y h x p n c=(((if s then 128#8 else 0#8)|||(if z then 64#8 else 0#8)|||(if y then 32#8 else 0#8)|||(if x then 8#8 else 0#8))|||(if c then 1#8 else 0#8))|||(if h then 16#8 else 0#8)|||(if p then 4#8 else 0#8)|||(if n then 2#8 else 0#8):=by
  revert s z y h x p n c; decide +kernel
theorem add_plain (a b:BitVec 8) (c h p k:Bool) (hh:h=decide (15<a.toNat%16+b.toNat%16+c.toNat)) (hp:p=decide (sgnI a+sgnI b+oneI c< -128∨127<sgnI a+sgnI b+oneI c)) (hk:k=decide (255<a.toNat+b.toNat+c.toNat)):
    byteF (decide (128#8≤(addS a b c).1)) ((addS a b c).1==0#8) ((addS a b c).1 / 32#8%2#8==1#8) h ((addS a b c).1 / 8#8%2#8==1#8) p false k=(addS a b c).2:=by
  have hv:=add_val a b c
  have ha:=a.isLt
  have hb:=b.isLt
  have hc:c.toNat≤1:=Bool.toNat_le c
  rw[flags_or,← shape_bits]
  have e1:((a.setWidth 16+b.setWidth 16+bit16 c)>>>8).setWidth 8*1#8=if k then 1#8 else 0#8:=by
    apply BitVec.eq_of_toNat_eq
    subst hk
    unfold bit16
    by_cases h1:255<a.toNat+b.toNat+c.toNat
    · rw[decide_eq_true h1]
      cases c <;> simp[BitVec.toNat_add,Nat.shiftRight_eq_div_pow] at h1 ⊢ <;> omega
    · rw[decide_eq_false h1]
      cases c <;> simp[BitVec.toNat_add,Nat.shiftRight_eq_div_pow] at h1 ⊢ <;> omega
  have e2:(a^^^b^^^(addS a b c).1)&&&16#8=if h then 16#8 else 0#8:=by
    have e:(a^^^b^^^(addS a b c).1).getLsbD 4=h:=by
     rw[BitVec.getLsbD_xor,BitVec.getLsbD_xor,bit4,bit4,bit4,hv,hh]
     by_cases p1:a.toNat / 16%2=1 <;> by_cases p2:b.toNat / 16%2=1 <;> by_cases p3:(a.toNat+b.toNat+c.toNat)%256 / 16%2=1 <;> by_cases p4:15<a.toNat%16+b.toNat%16+c.toNat <;> simp only[p1,p2,p3,p4,decide_true,decide_false,Bool.xor_true,Bool.xor_false,Bool.not_true,Bool.not_false,Bool.true_eq_false,Bool.false_eq_true] <;> first | rfl | omega
    rw[and16,e]
  have e3:(((a^^^(addS a b c).1)&&&(b^^^(addS a b c).1))>>>5)&&&4#8=if p then 4#8 else 0#8:=by
    have e:((a^^^(addS a b c).1)&&&(b^^^(addS a b c).1)).getLsbD 7=p:=by
     rw[BitVec.getLsbD_and,BitVec.getLsbD_xor,BitVec.getLsbD_xor,bit7,bit7,bit7,hv,hp]
     have sa:sgnI a=if 128≤a.toNat then(a.toNat:Int)-256 else a.toNat:=by unfold sgnI; simp[BitVec.le_def]
     have sb:sgnI b=if 128≤b.toNat then(b.toNat:Int)-256 else b.toNat:=by unfold sgnI; simp[BitVec.le_def]
     have sc:oneI c=(c.toNat:Int):=by cases c <;> rfl
     rw[sa,sb,sc]
     by_cases p1:128≤a.toNat <;> by_cases p2:128≤b.toNat <;> by_cases p3:128≤(a.toNat+b.toNat+c.toNat)%256 <;> simp only[p1,p2,p3,if_true,if_false,decide_true,decide_false,Bool.xor_true,Bool.xor_false,Bool.not_true,Bool.not_false,Bool.and_true,Bool.and_false,Bool.true_and,Bool.false_and] <;> first | (symm; apply decide_eq_true; omega) | (symm; apply decide_eq_false; omega)
    rw[and4,e]
  unfold addS at e2 e3 ⊢
  simp only at e2 e3 ⊢
  rw[e1,e2,e3]
  simp
theorem sub_plain (a b:BitVec 8) (c h p k:Bool) (hh:h=decide (a.toNat%16<b.toNat%16+c.toNat)) (hp:p=decide (sgnI a-sgnI b-oneI c< -128∨127<sgnI a-sgnI b-oneI c)) (hk:k=decide (a.toNat<b.toNat+c.toNat)):
    byteF (decide (128#8≤(subS a b c).1)) ((subS a b c).1==0#8) ((subS a b c).1 / 32#8%2#8==1#8) h ((subS a b c).1 / 8#8%2#8==1#8) p true k=(subS a b c).2:=by
  have ha:=a.isLt
  have hb:=b.isLt
  have hn:(~~~b).toNat=255-b.toNat:=by simp
  have hs:sgnI (~~~b)= -1-sgnI b:=by
    have:∀b:BitVec 8,sgnI (~~~b)= -1-sgnI b:=by decide +kernel
    exact this b
  have ho:oneI (!c)=1-oneI c:=by cases c <;> rfl
  have hc:(!c).toNat=1-c.toNat:=by cases c <;> rfl
  have hc1:c.toNat≤1:=Bool.toNat_le c
  have:=add_plain a (~~~b) (!c) (!h) p (!k) (by rw[hh,hn,hc]; by_cases q:a.toNat%16<b.toNat%16+c.toNat <;> simp only[q,decide_true,decide_false,Bool.not_true,Bool.not_false] <;> first | (symm; apply decide_eq_true; omega) | (symm; apply decide_eq_false; omega))
    (by rw[hp,hs,ho]; apply decide_eq_decide.2; constructor <;> intro q <;> rcases q with q | q <;> first | exact .inl (by omega) | exact .inr (by omega)) (by rw[hk,hn,hc]; by_cases q:a.toNat<b.toNat+c.toNat <;> simp only[q,decide_true,decide_false,Bool.not_true,Bool.not_false] <;> first | (symm; apply decide_eq_true; omega) | (symm; apply decide_eq_false; omega))
  unfold subS
  simp only
  rw[← this]
  have key:∀s z y h x p c:Bool,byteF s z y h x p true c=byteF s z y (!h) x p false (!c)^^^17#8|||2#8:=by decide +kernel
  exact key _ _ _ _ _ _ _
theorem sub_val (a b:BitVec 8) (c:Bool):((subS a b c).1).toNat=(a.toNat+512-b.toNat-c.toNat)%256:=by
  have ha:=a.isLt
  have hb:=b.isLt
  unfold subS
  simp only
  rw[add_val]
  have hn:(~~~b).toNat=255-b.toNat:=by simp
  have hc:(!c).toNat=1-c.toNat:=by cases c <;> rfl
  have hc1:c.toNat≤1:=Bool.toNat_le c
  rw[hn,hc]; omega
end Go.Proofs.Joy
namespace Go.Proofs.Joy
open Go.Ab
set_option maxHeartbeats 1000000
end Go.Proofs.Joy
namespace Go.Proofs.Joy
open Go.Ab Go.Proofs
set_option maxHeartbeats 1000000
set_option maxRecDepth 20000
end Go.Proofs.Joy
namespace Go.Proofs.Joy
open Go.Ab Go.Proofs
set_option maxHeartbeats 1000000
set_option maxRecDepth 20000
end Go.Proofs.Joy
namespace Go.Proofs.Joy
open Go.Ab
set_option maxHeartbeats 1000000
end Go.Proofs.Joy
namespace Go.Proofs.Joy
open Go.Ab
set_option maxHeartbeats 1000000
theorem sub_zero (a v:BitVec 8):((subS a v false).2&&&64#8==0#8)=!(a==v):=by
  rw[← sub_plain a v false _ _ _ rfl rfl rfl]
  have key:∀s z y h x p c:Bool,(byteF s z y h x p true c&&&64#8==0#8)=!z:=by decide +kernel
  rw[key]
  congr 1
  have hv:=sub_val a v false
  have ha:=a.isLt
  have hb:=v.isLt
  by_cases e:a=v
  · subst e
    have:(subS a a false).1=0#8:=BitVec.eq_of_toNat_eq (by rw[hv]; simp)
    rw[this]; simp
  · have h1:(a==v)=false:=by simpa using e
    rw[h1]
    have:(subS a v false).1≠0#8:=fun q=>by
      rw[q] at hv
      simp at hv
      exact e (BitVec.eq_of_toNat_eq (by omega))
    simpa using this
end Go.Proofs.Joy
namespace Go.Proofs.Joy
open Go.Ab Go.Proofs
set_option maxHeartbeats 1000000
set_option maxRecDepth 20000
end Go.Proofs.Joy
namespace Go.Proofs.Joy
open Go.Ab Go.Proofs
set_option maxHeartbeats 1000000
set_option maxRecDepth 20000
end Go.Proofs.Joy
namespace Go.Proofs.Joy
open Go.Ab
set_option maxHeartbeats 1000000
attribute [go_sem] UInt8.toBitVec_ofNat
abbrev Str:=List (BitVec 8)
def getB (r:Rg) (m:Str):BitVec 16:=
  if m==[65#8] then r.a.setWidth 16 else if m==[70#8] then r.f.setWidth 16 else if m==[66#8] then r.b.setWidth 16 else if m==[67#8] then r.c.setWidth 16 else if m==[68#8] then r.d.setWidth 16 else if m==[69#8] then r.e.setWidth 16
  else if m==[72#8] then r.h.setWidth 16 else if m==[76#8] then r.l.setWidth 16 else if m==[73#8,88#8,72#8] then(hiS r.ix).setWidth 16 else if m==[73#8,88#8,76#8] then(loS r.ix).setWidth 16
  else if m==[73#8,89#8,72#8] then(hiS r.iy).setWidth 16 else if m==[73#8,89#8,76#8] then(loS r.iy).setWidth 16 else if m==[73#8,88#8] then r.ix else if m==[73#8,89#8] then r.iy else if m==[83#8,80#8] then r.sp
  else if m==[73#8] then r.i.setWidth 16 else if m==[82#8] then r.r.setWidth 16 else if m==[66#8,67#8] then joinS r.b r.c else if m==[68#8,69#8] then joinS r.d r.e else if m==[72#8,76#8] then joinS r.h r.l else joinS r.a r.f
def setB (r:Rg) (m:Str) (v:BitVec 16):Rg:=
  if m==[65#8] then { r with a:=loS v} else if m==[70#8] then { r with f:=loS v} else if m==[66#8] then { r with b:=loS v} else if m==[67#8] then { r with c:=loS v} else if m==[68#8] then { r with d:=loS v} else if m==[69#8] then { r with e:=loS v}
  else if m==[72#8] then { r with h:=loS v} else if m==[76#8] then { r with l:=loS v} else if m==[73#8,88#8,72#8] then { r with ix:=joinS (loS v) (loS r.ix)} else if m==[73#8,88#8,76#8] then { r with ix:=joinS (hiS r.ix) (loS v)}
  else if m==[73#8,89#8,72#8] then { r with iy:=joinS (loS v) (loS r.iy)} else if m==[73#8,89#8,76#8] then { r with iy:=joinS (hiS r.iy) (loS v)} else if m==[73#8,88#8] then { r with ix:=v} else if m==[73#8,89#8] then { r with iy:=v} else if m==[83#8,80#8] then { r with sp:=v}
  else if m==[73#8] then { r with i:=loS v} else if m==[82#8] then { r with r:=loS v} else if m==[66#8,67#8] then { r with b:=hiS v,c:=loS v} else if m==[68#8,69#8] then { r with d:=hiS v,e:=loS v} else if m==[72#8,76#8] then { r with h:=hiS v,l:=loS v} else { r with a:=hiS v,f:=loS v}
def pairs7:List Str:=[[66#8,67#8],[68#8,69#8],[72#8,76#8],[83#8,80#8],[65#8,70#8],[73#8,88#8],[73#8,89#8]]
def pairB (m:Str):Bool:=pairs7.any (· ==m)
end Go.Proofs.Joy
namespace Go.Proofs.Joy
open Go.Ab Go.Proofs
set_option maxHeartbeats 2000000
set_option maxRecDepth 20000
end Go.Proofs.Joy
namespace Go.Proofs.Joy
open Go.Ab Go.Proofs
set_option maxHeartbeats 2000000
set_option maxRecDepth 20000
end Go.Proofs.Joy
namespace Go.Proofs.Joy
open Go.Ab
set_option maxHeartbeats 1000000
def splitG (mk:BitVec 8):Str→List Str→Str→List Str×Str
  | [],o,p=>(o,p)
  | c :: r,o,p=>if c==mk then splitG mk r (o++[p]) [] else splitG mk r o (p++[c])
def splitS (s:Str) (mk:BitVec 8):List Str:=(splitG mk s [] []).1++[(splitG mk s [] []).2]
theorem splitG_cons (mk c:BitVec 8) (r:Str) (o:List Str) (p:Str):splitG mk (c :: r) o p=if c==mk then splitG mk r (o++[p]) [] else splitG mk r o (p++[c]):=rfl
theorem splitG_len (mk:BitVec 8):∀(s:Str) (o:List Str) (p:Str),(splitG mk s o p).1.length≤o.length+s.length∧(splitG mk s o p).2.length≤p.length+s.length
  | [],o,p=>⟨Nat.le_refl _,Nat.le_refl _⟩
  | c :: r,o,p=>by
    unfold splitG
    split
    · have:=splitG_len mk r (o++[p]) []
      simp at this ⊢; omega
    · have:=splitG_len mk r o (p++[c])
      simp at this ⊢; omega
theorem drop_cons {s:Str} {i:Nat} (h:i<s.length):s.drop i=s.getD i 0#8 :: s.drop (i+1):=by
  rw[List.drop_eq_getElem_cons h]
  simp[List.getD_eq_getElem?_getD,h]
theorem take_one {s:Str} {i:Nat} (h:i<s.length):(s.drop i).take 1=[s.getD i 0#8]:=by
  rw[drop_cons h]; rfl
theorem splitG_le (mk:BitVec 8) (B:Nat):∀(s:Str) (o:List Str) (p:Str),(∀x∈o,x.length≤B)→p.length+s.length≤B→(∀x∈(splitG mk s o p).1,x.length≤B)∧(splitG mk s o p).2.length≤B
  | [],o,p,ho,hp=>⟨ho,by simp only[splitG]; simp at hp; omega⟩
  | c :: r,o,p,ho,hp=>by
    simp only[List.length_cons] at hp
    rw[splitG_cons]
    split
    · refine splitG_le mk B r _ _ (fun x hx=>?_) (by simp; omega)
      rcases List.mem_append.1 hx with hx | hx
      · exact ho x hx
      · simp at hx; subst hx; omega
    · exact splitG_le mk B r _ _ ho (by simp; omega)
theorem split_le (s:Str) (mk:BitVec 8) {B:Nat} (h:s.length≤B) (i:Nat):((splitS s mk).getD i []).length≤B:=by
  obtain⟨h1,h2⟩:=splitG_le mk B s [] [] (by simp) (by simpa using h)
  rw[List.getD_eq_getElem?_getD]
  cases e:(splitS s mk)[i]? with
  | none=>exact Nat.zero_le _
  | some x=>
    have:=List.mem_of_getElem? e
    unfold splitS at this
    rcases List.mem_append.1 this with hx | hx
    · exact h1 x hx
    · simp at hx; subst hx; exact h2
theorem splitS_len (s:Str) (mk:BitVec 8):(splitS s mk).length≤s.length+1∧1≤(splitS s mk).length:=by
  have:=splitG_len mk s [] []
  unfold splitS
  simp at this ⊢; omega
end Go.Proofs.Joy
namespace Go.Proofs.Joy
open Go.Ab Go.Proofs
set_option maxHeartbeats 1000000
set_option maxRecDepth 20000
structure SpS where
  i:Nat
  o:List Str
  p:Str
  v:AV
  H:Heap
  m:Nat
def spR (n:Nat) (H:Heap) (m:Nat) (v:AV) (o:List Str):Prop:=∃q,n≤q∧q<m∧H q=some ⟨o.map .st,9,false⟩∧(v=.su q 0 o.length 1∨(v=.sl q 0 0 0∧o=[]))
theorem sts_ok (l:List Str) (n:Nat):∀v∈l.map AV.st,v.ok n=true:=fun v hv=>by obtain⟨x,_,rfl⟩:=List.mem_map.1 hv; rfl
theorem z_split11 (s:Str) (mk:BitVec 8) (hs:s.length≤100000) (H:Heap) (n:Nat) (K:AV→Heap→Nat→Prop)
    (h:∀H' n' q,H'.wf n'→n≤n'→n≤q→q<n'→H' q=some ⟨(splitS s mk).map .st,9,false⟩→(∀i,i<n→H' i=H i)→K (.su q 0 (splitS s mk).length 1) H' n'):ACalls Tryz.prog 85 [.st s,.u8 mk] H n K:=by
  refine ACalls.of_awp Tryz.func85 rfl (by decide +kernel) (show 2≤35 by decide) (by simp) fun wf=>?_
  refine awp_step dr0 (by decide +kernel) ?_
  simp only[go_sem,Tryz.f85]
  refine awp_step dr0 (by decide +kernel) ?_
  simp only[go_sem]
  refine awp_step dr0 (by decide +kernel) ?_
  simp only[go_sem]
  refine awp_seq ?_
  refine awp_step dr0 (by decide +kernel) ?_
  simp only[go_sem]
  refine awp_block ?_
  refine awp_loopF (S:=SpS) (fun x=>[(0,.st s),(1,.u8 mk),(5,x.v),(6,.st x.p),(7,.i64 x.i)]) (fun x=>x.H) (fun x=>x.m)
    (fun x=>x.H.wf x.m∧n≤x.m∧(∀j,j<n→x.H j=H j)∧spR n x.H x.m x.v x.o∧x.i≤s.length∧x.o.length≤x.i∧x.p.length≤x.i∧splitG mk (s.drop x.i) x.o x.p=splitG mk s [] []) (fun x=>s.length-x.i)
    (fun x ⟨w,_,_,⟨q,_,hq,_,hv⟩,_⟩=>⟨w,Env.okAt_of2 (by rcases hv with hv | ⟨hv,_⟩ <;> simp[AV.ok,hv,hq])⟩) ?_ ⟨0,[],[],.sl n 0 0 0,H.upd n (some ⟨[],9,false⟩),n+1⟩
    ⟨Heap.wf_upd wf (fun v hv=>by simp at hv),Nat.le_succ n,fun j hj=>Heap.upd_ne _ _ (by omega),⟨n,Nat.le_refl _,Nat.lt_succ_self n,Heap.upd_same _ _ _,.inr ⟨rfl,rfl⟩⟩,Nat.zero_le _,Nat.le_refl _,Nat.le_refl _,rfl⟩ (by repeat (first | exact Env.le_nil _ | refine Env.le_cons rfl ?_)) (fun _ _=>rfl) rfl
  rintro⟨i,o,p,v,X,m⟩ ⟨w,hm,hX,hR,hi,ho,hp,hg⟩
  simp only at w hm hX hR hi ho hp hg ⊢
  obtain⟨q,q1,q2,q3,q4⟩:=hR
  have eq:=fun Y=>Heap.upd_ne X (i:=m) (j:=q) Y (by omega)
  refine awp_step dr0 (by decide +kernel) ?_
  simp only[go_sem]
  refine⟨fun hlt=>?_,fun hge=>?_⟩
  · have hi1:i<s.length:=by omega
    have e1:wrap64 ((i:Int)+1)=((i+1:Nat):Int):=by rw[wrap_id _ (by omega) (by omega)]; omega
    have e2:=take_one hi1
    rw[drop_cons hi1] at hg
    rw[splitG_cons] at hg
    refine awp_ev dr0 (by decide +kernel) ?_
    rcases q4 with rfl | ⟨rfl,rfl⟩
    · simp only[go_sem,eq,q3,e1]
      refine⟨by omega,fun e=>⟨by simp,by omega,?_⟩,fun e=>⟨by omega,by omega,by rw[show i+1-i=1 by omega,e2,List.length_singleton]; omega,?_⟩⟩
      · rw[e] at hg
        simp only[if_true] at hg
        refine Ends.mk (⟨i+1,o++[p],[],.su (m+1) 0 (o.length+1) 1,((X.upd m (some ⟨[.st p],9,false⟩)).upd q none).upd (m+1) (some ⟨List.take o.length (List.map AV.st o)++[AV.st p],9,false⟩),m+2⟩:SpS)
          ⟨by simp only; omega,Heap.wf_upd (Heap.wf_upd_none (Heap.wf_upd w (by simp[AV.ok]))) (fun v hv=>by rcases List.mem_append.1 hv with hv | hv; exact sts_ok o _ v (List.mem_of_mem_take hv); simp at hv; subst hv; rfl),by simp only; omega,fun j hj=>by simp only; rw[Heap.upd_ne _ _ (by omega),Heap.upd_ne _ _ (by omega),Heap.upd_ne _ _ (by omega)]; exact hX j hj,
            ⟨m+1,by omega,by simp only; omega,by simp only; rw[Heap.upd_same,List.take_of_length_le (by simp)]; simp,.inl (by simp)⟩,by simp only; omega,by simp; omega,by simp,hg⟩ (by repeat (first | exact Env.le_nil _ | refine Env.le_cons rfl ?_)) (fun _ _=>rfl) (by simp only; omega) (Nat.le_refl _)
      · rw[e] at hg
        simp only[Bool.false_eq_true,if_false] at hg
        rw[show i+1-i=1 by omega,e2]
        exact Ends.mk (⟨i+1,o,p++[s.getD i 0#8],_,X,m⟩:SpS) ⟨by simp only; omega,w,hm,hX,⟨q,q1,q2,q3,.inl rfl⟩,by simp only; omega,by simp only; omega,by simp; omega,hg⟩ (by repeat (first | exact Env.le_nil _ | refine Env.le_cons rfl ?_)) (fun _ _=>rfl) (Nat.le_refl _) (Nat.le_refl _)
    · simp only[go_sem,eq,q3,e1]
      refine⟨by omega,fun e=>?_,fun e=>⟨by omega,by omega,by rw[show i+1-i=1 by omega,e2,List.length_singleton]; omega,?_⟩⟩
      · rw[e] at hg
        simp only[if_true] at hg
        exact Ends.mk (⟨i+1,[p],[],.su (m+1) 0 1 1,(X.upd m (some ⟨[.st p],9,false⟩)).upd (m+1) (some ⟨[.st p],9,false⟩),m+2⟩:SpS)
          ⟨by simp only; omega,Heap.wf_upd (Heap.wf_upd w (by simp[AV.ok])) (by simp[AV.ok]),by simp only; omega,fun j hj=>by simp only; rw[Heap.upd_ne _ _ (by omega),Heap.upd_ne _ _ (by omega)]; exact hX j hj,
            ⟨m+1,by omega,by simp only; omega,Heap.upd_same _ _ _,.inl rfl⟩,by simp only; omega,by simp,by simp,hg⟩ (by repeat (first | exact Env.le_nil _ | refine Env.le_cons rfl ?_)) (fun _ _=>rfl) (by simp only; omega) (Nat.le_refl _)
      · rw[e] at hg
        simp only[Bool.false_eq_true,if_false] at hg
        rw[show i+1-i=1 by omega,e2]
        exact Ends.mk (⟨i+1,[],p++[s.getD i 0#8],_,X,m⟩:SpS) ⟨by simp only; omega,w,hm,hX,⟨q,q1,q2,q3,.inr ⟨rfl,rfl⟩⟩,by simp only; omega,by simp only; omega,by simp; omega,hg⟩ (by repeat (first | exact Env.le_nil _ | refine Env.le_cons rfl ?_)) (fun _ _=>rfl) (Nat.le_refl _) (Nat.le_refl _)
  · obtain rfl:i=s.length:=by omega
    rw[List.drop_length] at hg
    simp only[splitG] at hg
    have hS:splitS s mk=o++[p]:=by unfold splitS; rw[← hg]
    rw[hS] at h
    refine awp_ev dr0 (by decide +kernel) ?_
    rcases q4 with rfl | ⟨rfl,rfl⟩
    · simp only[go_sem,eq,q3]
      refine⟨by simp,by omega,Fin.keep ?_⟩
      have:=h (((X.upd m (some ⟨[.st p],9,false⟩)).upd q none).upd (m+1) (some ⟨List.take o.length (List.map AV.st o)++[AV.st p],9,false⟩)) (m+2) (m+1)
        (Heap.wf_upd (Heap.wf_upd_none (Heap.wf_upd w (by simp[AV.ok]))) (fun v hv=>by rcases List.mem_append.1 hv with hv | hv; exact sts_ok o _ v (List.mem_of_mem_take hv); simp at hv; subst hv; rfl)) (by omega) (by omega) (by omega) (by rw[Heap.upd_same,List.take_of_length_le (by simp)]; simp) (fun j hj=>by rw[Heap.upd_ne _ _ (by omega),Heap.upd_ne _ _ (by omega),Heap.upd_ne _ _ (by omega)]; exact hX j hj)
      simpa using this
    · simp only[go_sem,eq,q3]
      refine Fin.keep ?_
      have:=h ((X.upd m (some ⟨[.st p],9,false⟩)).upd (m+1) (some ⟨[.st p],9,false⟩)) (m+2) (m+1)
        (Heap.wf_upd (Heap.wf_upd w (by simp[AV.ok])) (by simp[AV.ok])) (by omega) (by omega) (by omega) (Heap.upd_same _ _ _) (fun j hj=>by rw[Heap.upd_ne _ _ (by omega),Heap.upd_ne _ _ (by omega)]; exact hX j hj)
      simpa using this
end Go.Proofs.Joy
namespace Go.Proofs.Joy
open Go.Ab
set_option maxHeartbeats 4000000
set_option maxRecDepth 20000
def firstL:Str:=[78#8,79#8,80#8,124#8,76#8,68#8,32#8,66#8,67#8,44#8,110#8,110#8,124#8,76#8,68#8,32#8,40#8,66#8,67#8,41#8,44#8,65#8,124#8,73#8,78#8,67#8,32#8,66#8,67#8,124#8,73#8,78#8,67#8,32#8,66#8,124#8,68#8,69#8,67#8,32#8,66#8,124#8,76#8,68#8,32#8,66#8,44#8,110#8,124#8,82#8,76#8,67#8,65#8,124#8,69#8,88#8,32#8,65#8,70#8,44#8,65#8,70#8,39#8,124#8,65#8,68#8,68#8,32#8,72#8,76#8,44#8,66#8,67#8,124#8,76#8,68#8,32#8,65#8,44#8,40#8,66#8,67#8,41#8,124#8,68#8,69#8,67#8,32#8,66#8,67#8,124#8,73#8,78#8,67#8,32#8,67#8,124#8,68#8,69#8,67#8,32#8,67#8,124#8,76#8,68#8,32#8,67#8,44#8,110#8,124#8,82#8,82#8,67#8,65#8,124#8,68#8,74#8,78#8,90#8,32#8,101#8,124#8,76#8,68#8,32#8,68#8,69#8,44#8,110#8,110#8,124#8,76#8,68#8,32#8,40#8,68#8,69#8,41#8,44#8,65#8,124#8,73#8,78#8,67#8,32#8,68#8,69#8,124#8,73#8,78#8,67#8,32#8,68#8,124#8,68#8,69#8,67#8,32#8,68#8,124#8,76#8,68#8,32#8,68#8,44#8,110#8,124#8,82#8,76#8,65#8,124#8,74#8,82#8,32#8,101#8,124#8,65#8,68#8,68#8,32#8,72#8,76#8,44#8,68#8,69#8,124#8,76#8,68#8,32#8,65#8,44#8,40#8,68#8,69#8,41#8,124#8,68#8,69#8,67#8,32#8,68#8,69#8,124#8,73#8,78#8,67#8,32#8,69#8,124#8,68#8,69#8,67#8,32#8,69#8,124#8,76#8,68#8,32#8,69#8,44#8,110#8,124#8,82#8,82#8,65#8,124#8,74#8,82#8,32#8,78#8,90#8,44#8,101#8,124#8,76#8,68#8,32#8,72#8,76#8,44#8,110#8,110#8,124#8,76#8,68#8,32#8,40#8,110#8,110#8,41#8,44#8,72#8,76#8,124#8,73#8,78#8,67#8,32#8,72#8,76#8,124#8,73#8,78#8,67#8,32#8,72#8,124#8,68#8,69#8,67#8,32#8,72#8,124#8,76#8,68#8,32#8,72#8,44#8,110#8,124#8,68#8,65#8,65#8,124#8,74#8,82#8,32#8,90#8,44#8,101#8,124#8,65#8,68#8,68#8,32#8,72#8,76#8,44#8,72#8,76#8,124#8,76#8,68#8,32#8,72#8,76#8,44#8,40#8,110#8,110#8,41#8,124#8,68#8,69#8,67#8,32#8,72#8,76#8,124#8,73#8,78#8,67#8,32#8,76#8,124#8,68#8,69#8,67#8,32#8,76#8,124#8,76#8,68#8,32#8,76#8,44#8,110#8,124#8,67#8,80#8,76#8,124#8,74#8,82#8,32#8,78#8,67#8,44#8,101#8,124#8,76#8,68#8,32#8,83#8,80#8,44#8,110#8,110#8,124#8,76#8,68#8,32#8,40#8,110#8,110#8,41#8,44#8,65#8,124#8,73#8,78#8,67#8,32#8,83#8,80#8,124#8,73#8,78#8,67#8,32#8,40#8,72#8,76#8,41#8,124#8,68#8,69#8,67#8,32#8,40#8,72#8,76#8,41#8,124#8,76#8,68#8,32#8,40#8,72#8,76#8,41#8,44#8,110#8,124#8,83#8,67#8,70#8,124#8,74#8,82#8,32#8,67#8,44#8,101#8,124#8,65#8,68#8,68#8,32#8,72#8,76#8,44#8,83#8,80#8,124#8,76#8,68#8,32#8,65#8,44#8,40#8,110#8,110#8,41#8,124#8,68#8,69#8,67#8,32#8,83#8,80#8,124#8,73#8,78#8,67#8,32#8,65#8,124#8,68#8,69#8,67#8,32#8,65#8,124#8,76#8,68#8,32#8,65#8,44#8,110#8,124#8,67#8,67#8,70#8]
def firstT:List Str:=[[78#8,79#8,80#8],[76#8,68#8,32#8,66#8,67#8,44#8,110#8,110#8],[76#8,68#8,32#8,40#8,66#8,67#8,41#8,44#8,65#8],[73#8,78#8,67#8,32#8,66#8,67#8],[73#8,78#8,67#8,32#8,66#8],[68#8,69#8,67#8,32#8,66#8],[76#8,68#8,32#8,66#8,44#8,110#8],[82#8,76#8,67#8,65#8],[69#8,88#8,32#8,65#8,70#8,44#8,65#8,70#8,39#8],[65#8,68#8,68#8,32#8,72#8,76#8,44#8,66#8,67#8],[76#8,68#8,32#8,65#8,44#8,40#8,66#8,67#8,41#8],[68#8,69#8,67#8,32#8,66#8,67#8],[73#8,78#8,67#8,32#8,67#8],[68#8,69#8,67#8,32#8,67#8],[76#8,68#8,32#8,67#8,44#8,110#8],[82#8,82#8,67#8,65#8],[68#8,74#8,78#8,90#8,32#8,101#8],[76#8,68#8,32#8,68#8,69#8,44#8,110#8,110#8],[76#8,68#8,32#8,40#8,68#8,69#8,41#8,44#8,65#8],[73#8,78#8,67#8,32#8,68#8,69#8],[73#8,78#8,67#8,32#8,68#8],[68#8,69#8,67#8,32#8,68#8],[76#8,68#8,32#8,68#8,44#8,110#8],[82#8,76#8,65#8],[74#8,82#8,32#8,101#8],[65#8,68#8,68#8,32#8,72#8,76#8,44#8,68#8,69#8],[76#8,68#8,32#8,65#8,44#8,40#8,68#8,69#8,41#8],[68#8,69#8,67#8,32#8,68#8,69#8],[73#8,78#8,67#8,32#8,69#8],[68#8,69#8,67#8,32#8,69#8],[76#8,68#8,32#8,69#8,44#8,110#8],[82#8,82#8,65#8],[74#8,82#8,32#8,78#8,90#8,44#8,101#8],[76#8,68#8,32#8,72#8,76#8,44#8,110#8,110#8],[76#8,68#8,32#8,40#8,110#8,110#8,41#8,44#8,72#8,76#8],[73#8,78#8,67#8,32#8,72#8,76#8],[73#8,78#8,67#8,32#8,72#8],[68#8,69#8,67#8,32#8,72#8],[76#8,68#8,32#8,72#8,44#8,110#8],[68#8,65#8,65#8],[74#8,82#8,32#8,90#8,44#8,101#8],[65#8,68#8,68#8,32#8,72#8,76#8,44#8,72#8,76#8],[76#8,68#8,32#8,72#8,76#8,44#8,40#8,110#8,110#8,41#8],[68#8,69#8,67#8,32#8,72#8,76#8],[73#8,78#8,67#8,32#8,76#8],[68#8,69#8,67#8,32#8,76#8],[76#8,68#8,32#8,76#8,44#8,110#8],[67#8,80#8,76#8],[74#8,82#8,32#8,78#8,67#8,44#8,101#8],[76#8,68#8,32#8,83#8,80#8,44#8,110#8,110#8],[76#8,68#8,32#8,40#8,110#8,110#8,41#8,44#8,65#8],[73#8,78#8,67#8,32#8,83#8,80#8],[73#8,78#8,67#8,32#8,40#8,72#8,76#8,41#8],[68#8,69#8,67#8,32#8,40#8,72#8,76#8,41#8],[76#8,68#8,32#8,40#8,72#8,76#8,41#8,44#8,110#8],[83#8,67#8,70#8],[74#8,82#8,32#8,67#8,44#8,101#8],[65#8,68#8,68#8,32#8,72#8,76#8,44#8,83#8,80#8],[76#8,68#8,32#8,65#8,44#8,40#8,110#8,110#8,41#8],[68#8,69#8,67#8,32#8,83#8,80#8],[73#8,78#8,67#8,32#8,65#8],[68#8,69#8,67#8,32#8,65#8],[76#8,68#8,32#8,65#8,44#8,110#8],[67#8,67#8,70#8]]
theorem firstT_eq:splitS firstL 124#8=firstT:=by decide +kernel
def lastL:Str:=[82#8,69#8,84#8,32#8,78#8,90#8,124#8,80#8,79#8,80#8,32#8,66#8,67#8,124#8,74#8,80#8,32#8,78#8,90#8,44#8,110#8,110#8,124#8,74#8,80#8,32#8,110#8,110#8,124#8,67#8,65#8,76#8,76#8,32#8,78#8,90#8,44#8,110#8,110#8,124#8,80#8,85#8,83#8,72#8,32#8,66#8,67#8,124#8,65#8,68#8,68#8,32#8,65#8,44#8,110#8,124#8,82#8,83#8,84#8,32#8,48#8,124#8,82#8,69#8,84#8,32#8,90#8,124#8,82#8,69#8,84#8,124#8,74#8,80#8,32#8,90#8,44#8,110#8,110#8,124#8,67#8,66#8,124#8,67#8,65#8,76#8,76#8,32#8,90#8,44#8,110#8,110#8,124#8,67#8,65#8,76#8,76#8,32#8,110#8,110#8,124#8,65#8,68#8,67#8,32#8,65#8,44#8,110#8,124#8,82#8,83#8,84#8,32#8,56#8,124#8,82#8,69#8,84#8,32#8,78#8,67#8,124#8,80#8,79#8,80#8,32#8,68#8,69#8,124#8,74#8,80#8,32#8,78#8,67#8,44#8,110#8,110#8,124#8,79#8,85#8,84#8,32#8,40#8,110#8,41#8,44#8,65#8,124#8,67#8,65#8,76#8,76#8,32#8,78#8,67#8,44#8,110#8,110#8,124#8,80#8,85#8,83#8,72#8,32#8,68#8,69#8,124#8,83#8,85#8,66#8,32#8,110#8,124#8,82#8,83#8,84#8,32#8,49#8,54#8,124#8,82#8,69#8,84#8,32#8,67#8,124#8,69#8,88#8,88#8,124#8,74#8,80#8,32#8,67#8,44#8,110#8,110#8,124#8,73#8,78#8,32#8,65#8,44#8,40#8,110#8,41#8,124#8,67#8,65#8,76#8,76#8,32#8,67#8,44#8,110#8,110#8,124#8,68#8,68#8,124#8,83#8,66#8,67#8,32#8,65#8,44#8,110#8,124#8,82#8,83#8,84#8,32#8,50#8,52#8,124#8,82#8,69#8,84#8,32#8,80#8,79#8,124#8,80#8,79#8,80#8,32#8,72#8,76#8,124#8,74#8,80#8,32#8,80#8,79#8,44#8,110#8,110#8,124#8,69#8,88#8,32#8,40#8,83#8,80#8,41#8,44#8,72#8,76#8,124#8,67#8,65#8,76#8,76#8,32#8,80#8,79#8,44#8,110#8,110#8,124#8,80#8,85#8,83#8,72#8,32#8,72#8,76#8,124#8,65#8,78#8,68#8,32#8,110#8,124#8,82#8,83#8,84#8,32#8,51#8,50#8,124#8,82#8,69#8,84#8,32#8,80#8,69#8,124#8,74#8,80#8,32#8,40#8,72#8,76#8,41#8,124#8,74#8,80#8,32#8,80#8,69#8,44#8,110#8,110#8,124#8,69#8,88#8,32#8,68#8,69#8,44#8,72#8,76#8,124#8,67#8,65#8,76#8,76#8,32#8,80#8,69#8,44#8,110#8,110#8,124#8,69#8,68#8,124#8,88#8,79#8,82#8,32#8,110#8,124#8,82#8,83#8,84#8,32#8,52#8,48#8,124#8,82#8,69#8,84#8,32#8,80#8,124#8,80#8,79#8,80#8,32#8,65#8,70#8,124#8,74#8,80#8,32#8,80#8,44#8,110#8,110#8,124#8,68#8,73#8,124#8,67#8,65#8,76#8,76#8,32#8,80#8,44#8,110#8,110#8,124#8,80#8,85#8,83#8,72#8,32#8,65#8,70#8,124#8,79#8,82#8,32#8,110#8,124#8,82#8,83#8,84#8,32#8,52#8,56#8,124#8,82#8,69#8,84#8,32#8,77#8,124#8,76#8,68#8,32#8,83#8,80#8,44#8,72#8,76#8,124#8,74#8,80#8,32#8,77#8,44#8,110#8,110#8,124#8,69#8,73#8,124#8,67#8,65#8,76#8,76#8,32#8,77#8,44#8,110#8,110#8,124#8,70#8,68#8,124#8,67#8,80#8,32#8,110#8,124#8,82#8,83#8,84#8,32#8,53#8,54#8]
def lastT:List Str:=[[82#8,69#8,84#8,32#8,78#8,90#8],[80#8,79#8,80#8,32#8,66#8,67#8],[74#8,80#8,32#8,78#8,90#8,44#8,110#8,110#8],[74#8,80#8,32#8,110#8,110#8],[67#8,65#8,76#8,76#8,32#8,78#8,90#8,44#8,110#8,110#8],[80#8,85#8,83#8,72#8,32#8,66#8,67#8],[65#8,68#8,68#8,32#8,65#8,44#8,110#8],[82#8,83#8,84#8,32#8,48#8],[82#8,69#8,84#8,32#8,90#8],[82#8,69#8,84#8],[74#8,80#8,32#8,90#8,44#8,110#8,110#8],[67#8,66#8],[67#8,65#8,76#8,76#8,32#8,90#8,44#8,110#8,110#8],[67#8,65#8,76#8,76#8,32#8,110#8,110#8],[65#8,68#8,67#8,32#8,65#8,44#8,110#8],[82#8,83#8,84#8,32#8,56#8],[82#8,69#8,84#8,32#8,78#8,67#8],[80#8,79#8,80#8,32#8,68#8,69#8],[74#8,80#8,32#8,78#8,67#8,44#8,110#8,110#8],[79#8,85#8,84#8,32#8,40#8,110#8,41#8,44#8,65#8],[67#8,65#8,76#8,76#8,32#8,78#8,67#8,44#8,110#8,110#8],[80#8,85#8,83#8,72#8,32#8,68#8,69#8],[83#8,85#8,66#8,32#8,110#8],[82#8,83#8,84#8,32#8,49#8,54#8],[82#8,69#8,84#8,32#8,67#8],[69#8,88#8,88#8],[74#8,80#8,32#8,67#8,44#8,110#8,110#8],[73#8,78#8,32#8,65#8,44#8,40#8,110#8,41#8],[67#8,65#8,76#8,76#8,32#8,67#8,44#8,110#8,110#8],[68#8,68#8],[83#8,66#8,67#8,32#8,65#8,44#8,110#8],[82#8,83#8,84#8,32#8,50#8,52#8],[82#8,69#8,84#8,32#8,80#8,79#8],[80#8,79#8,80#8,32#8,72#8,76#8],[74#8,80#8,32#8,80#8,79#8,44#8,110#8,110#8],[69#8,88#8,32#8,40#8,83#8,80#8,41#8,44#8,72#8,76#8],[67#8,65#8,76#8,76#8,32#8,80#8,79#8,44#8,110#8,110#8],[80#8,85#8,83#8,72#8,32#8,72#8,76#8],[65#8,78#8,68#8,32#8,110#8],[82#8,83#8,84#8,32#8,51#8,50#8],[82#8,69#8,84#8,32#8,80#8,69#8],[74#8,80#8,32#8,40#8,72#8,76#8,41#8],[74#8,80#8,32#8,80#8,69#8,44#8,110#8,110#8],[69#8,88#8,32#8,68#8,69#8,44#8,72#8,76#8],[67#8,65#8,76#8,76#8,32#8,80#8,69#8,44#8,110#8,110#8],[69#8,68#8],[88#8,79#8,82#8,32#8,110#8],[82#8,83#8,84#8,32#8,52#8,48#8],[82#8,69#8,84#8,32#8,80#8],[80#8,79#8,80#8,32#8,65#8,70#8],[74#8,80#8,32#8,80#8,44#8,110#8,110#8],[68#8,73#8],[67#8,65#8,76#8,76#8,32#8,80#8,44#8,110#8,110#8],[80#8,85#8,83#8,72#8,32#8,65#8,70#8],[79#8,82#8,32#8,110#8],[82#8,83#8,84#8,32#8,52#8,56#8],[82#8,69#8,84#8,32#8,77#8],[76#8,68#8,32#8,83#8,80#8,44#8,72#8,76#8],[74#8,80#8,32#8,77#8,44#8,110#8,110#8],[69#8,73#8],[67#8,65#8,76#8,76#8,32#8,77#8,44#8,110#8,110#8],[70#8,68#8],[67#8,80#8,32#8,110#8],[82#8,83#8,84#8,32#8,53#8,54#8]]
theorem lastT_eq:splitS lastL 124#8=lastT:=by decide +kernel
def extL:Str:=[73#8,78#8,32#8,66#8,44#8,40#8,67#8,41#8,124#8,79#8,85#8,84#8,32#8,40#8,67#8,41#8,44#8,66#8,124#8,83#8,66#8,67#8,32#8,72#8,76#8,44#8,66#8,67#8,124#8,76#8,68#8,32#8,40#8,110#8,110#8,41#8,44#8,66#8,67#8,124#8,78#8,69#8,71#8,124#8,82#8,69#8,84#8,78#8,124#8,73#8,77#8,32#8,48#8,124#8,76#8,68#8,32#8,73#8,44#8,65#8,124#8,73#8,78#8,32#8,67#8,44#8,40#8,67#8,41#8,124#8,79#8,85#8,84#8,32#8,40#8,67#8,41#8,44#8,67#8,124#8,65#8,68#8,67#8,32#8,72#8,76#8,44#8,66#8,67#8,124#8,76#8,68#8,32#8,66#8,67#8,44#8,40#8,110#8,110#8,41#8,124#8,78#8,69#8,71#8,124#8,82#8,69#8,84#8,73#8,124#8,73#8,77#8,32#8,48#8,124#8,76#8,68#8,32#8,82#8,44#8,65#8,124#8,73#8,78#8,32#8,68#8,44#8,40#8,67#8,41#8,124#8,79#8,85#8,84#8,32#8,40#8,67#8,41#8,44#8,68#8,124#8,83#8,66#8,67#8,32#8,72#8,76#8,44#8,68#8,69#8,124#8,76#8,68#8,32#8,40#8,110#8,110#8,41#8,44#8,68#8,69#8,124#8,78#8,69#8,71#8,124#8,82#8,69#8,84#8,78#8,124#8,73#8,77#8,32#8,49#8,124#8,76#8,68#8,32#8,65#8,44#8,73#8,124#8,73#8,78#8,32#8,69#8,44#8,40#8,67#8,41#8,124#8,79#8,85#8,84#8,32#8,40#8,67#8,41#8,44#8,69#8,124#8,65#8,68#8,67#8,32#8,72#8,76#8,44#8,68#8,69#8,124#8,76#8,68#8,32#8,68#8,69#8,44#8,40#8,110#8,110#8,41#8,124#8,78#8,69#8,71#8,124#8,82#8,69#8,84#8,78#8,124#8,73#8,77#8,32#8,50#8,124#8,76#8,68#8,32#8,65#8,44#8,82#8,124#8,73#8,78#8,32#8,72#8,44#8,40#8,67#8,41#8,124#8,79#8,85#8,84#8,32#8,40#8,67#8,41#8,44#8,72#8,124#8,83#8,66#8,67#8,32#8,72#8,76#8,44#8,72#8,76#8,124#8,76#8,68#8,32#8,40#8,110#8,110#8,41#8,44#8,72#8,76#8,124#8,78#8,69#8,71#8,124#8,82#8,69#8,84#8,78#8,124#8,73#8,77#8,32#8,48#8,124#8,82#8,82#8,68#8,124#8,73#8,78#8,32#8,76#8,44#8,40#8,67#8,41#8,124#8,79#8,85#8,84#8,32#8,40#8,67#8,41#8,44#8,76#8,124#8,65#8,68#8,67#8,32#8,72#8,76#8,44#8,72#8,76#8,124#8,76#8,68#8,32#8,72#8,76#8,44#8,40#8,110#8,110#8,41#8,124#8,78#8,69#8,71#8,124#8,82#8,69#8,84#8,78#8,124#8,73#8,77#8,32#8,48#8,124#8,82#8,76#8,68#8,124#8,73#8,78#8,32#8,40#8,67#8,41#8,124#8,79#8,85#8,84#8,32#8,40#8,67#8,41#8,44#8,48#8,124#8,83#8,66#8,67#8,32#8,72#8,76#8,44#8,83#8,80#8,124#8,76#8,68#8,32#8,40#8,110#8,110#8,41#8,44#8,83#8,80#8,124#8,78#8,69#8,71#8,124#8,82#8,69#8,84#8,78#8,124#8,73#8,77#8,32#8,49#8,124#8,78#8,79#8,80#8,124#8,73#8,78#8,32#8,65#8,44#8,40#8,67#8,41#8,124#8,79#8,85#8,84#8,32#8,40#8,67#8,41#8,44#8,65#8,124#8,65#8,68#8,67#8,32#8,72#8,76#8,44#8,83#8,80#8,124#8,76#8,68#8,32#8,83#8,80#8,44#8,40#8,110#8,110#8,41#8,124#8,78#8,69#8,71#8,124#8,82#8,69#8,84#8,78#8,124#8,73#8,77#8,32#8,50#8,124#8,78#8,79#8,80#8]
def extT:List Str:=[[73#8,78#8,32#8,66#8,44#8,40#8,67#8,41#8],[79#8,85#8,84#8,32#8,40#8,67#8,41#8,44#8,66#8],[83#8,66#8,67#8,32#8,72#8,76#8,44#8,66#8,67#8],[76#8,68#8,32#8,40#8,110#8,110#8,41#8,44#8,66#8,67#8],[78#8,69#8,71#8],[82#8,69#8,84#8,78#8],[73#8,77#8,32#8,48#8],[76#8,68#8,32#8,73#8,44#8,65#8],[73#8,78#8,32#8,67#8,44#8,40#8,67#8,41#8],[79#8,85#8,84#8,32#8,40#8,67#8,41#8,44#8,67#8],[65#8,68#8,67#8,32#8,72#8,76#8,44#8,66#8,67#8],[76#8,68#8,32#8,66#8,67#8,44#8,40#8,110#8,110#8,41#8],[78#8,69#8,71#8],[82#8,69#8,84#8,73#8],[73#8,77#8,32#8,48#8],[76#8,68#8,32#8,82#8,44#8,65#8],[73#8,78#8,32#8,68#8,44#8,40#8,67#8,41#8],[79#8,85#8,84#8,32#8,40#8,67#8,41#8,44#8,68#8],[83#8,66#8,67#8,32#8,72#8,76#8,44#8,68#8,69#8],[76#8,68#8,32#8,40#8,110#8,110#8,41#8,44#8,68#8,69#8],[78#8,69#8,71#8],[82#8,69#8,84#8,78#8],[73#8,77#8,32#8,49#8],[76#8,68#8,32#8,65#8,44#8,73#8],[73#8,78#8,32#8,69#8,44#8,40#8,67#8,41#8],[79#8,85#8,84#8,32#8,40#8,67#8,41#8,44#8,69#8],[65#8,68#8,67#8,32#8,72#8,76#8,44#8,68#8,69#8],[76#8,68#8,32#8,68#8,69#8,44#8,40#8,110#8,110#8,41#8],[78#8,69#8,71#8],[82#8,69#8,84#8,78#8],[73#8,77#8,32#8,50#8],[76#8,68#8,32#8,65#8,44#8,82#8],[73#8,78#8,32#8,72#8,44#8,40#8,67#8,41#8],[79#8,85#8,84#8,32#8,40#8,67#8,41#8,44#8,72#8],[83#8,66#8,67#8,32#8,72#8,76#8,44#8,72#8,76#8],[76#8,68#8,32#8,40#8,110#8,110#8,41#8,44#8,72#8,76#8],[78#8,69#8,71#8],[82#8,69#8,84#8,78#8],[73#8,77#8,32#8,48#8],[82#8,82#8,68#8],[73#8,78#8,32#8,76#8,44#8,40#8,67#8,41#8],[79#8,85#8,84#8,32#8,40#8,67#8,41#8,44#8,76#8],[65#8,68#8,67#8,32#8,72#8,76#8,44#8,72#8,76#8],[76#8,68#8,32#8,72#8,76#8,44#8,40#8,110#8,110#8,41#8],[78#8,69#8,71#8],[82#8,69#8,84#8,78#8],[73#8,77#8,32#8,48#8],[82#8,76#8,68#8],[73#8,78#8,32#8,40#8,67#8,41#8],[79#8,85#8,84#8,32#8,40#8,67#8,41#8,44#8,48#8],[83#8,66#8,67#8,32#8,72#8,76#8,44#8,83#8,80#8],[76#8,68#8,32#8,40#8,110#8,110#8,41#8,44#8,83#8,80#8],[78#8,69#8,71#8],[82#8,69#8,84#8,78#8],[73#8,77#8,32#8,49#8],[78#8,79#8,80#8],[73#8,78#8,32#8,65#8,44#8,40#8,67#8,41#8],[79#8,85#8,84#8,32#8,40#8,67#8,41#8,44#8,65#8],[65#8,68#8,67#8,32#8,72#8,76#8,44#8,83#8,80#8],[76#8,68#8,32#8,83#8,80#8,44#8,40#8,110#8,110#8,41#8],[78#8,69#8,71#8],[82#8,69#8,84#8,78#8],[73#8,77#8,32#8,50#8],[78#8,79#8,80#8]]
theorem extT_eq:splitS extL 124#8=extT:=by decide +kernel
def onesL:Str:=[66#8,124#8,67#8,124#8,68#8,124#8,69#8,124#8,72#8,124#8,76#8,124#8,40#8,72#8,76#8,41#8,124#8,65#8]
def onesT:List Str:=[[66#8],[67#8],[68#8],[69#8],[72#8],[76#8],[40#8,72#8,76#8,41#8],[65#8]]
theorem onesT_eq:splitS onesL 124#8=onesT:=by decide +kernel
def sumsL:Str:=[65#8,68#8,68#8,32#8,65#8,44#8,124#8,65#8,68#8,67#8,32#8,65#8,44#8,124#8,83#8,85#8,66#8,32#8,124#8,83#8,66#8,67#8,32#8,65#8,44#8,124#8,65#8,78#8,68#8,32#8,124#8,88#8,79#8,82#8,32#8,124#8,79#8,82#8,32#8,124#8,67#8,80#8,32#8]
def sumsT:List Str:=[[65#8,68#8,68#8,32#8,65#8,44#8],[65#8,68#8,67#8,32#8,65#8,44#8],[83#8,85#8,66#8,32#8],[83#8,66#8,67#8,32#8,65#8,44#8],[65#8,78#8,68#8,32#8],[88#8,79#8,82#8,32#8],[79#8,82#8,32#8],[67#8,80#8,32#8]]
theorem sumsT_eq:splitS sumsL 124#8=sumsT:=by decide +kernel
def rotsL:Str:=[82#8,76#8,67#8,124#8,82#8,82#8,67#8,124#8,82#8,76#8,124#8,82#8,82#8,124#8,83#8,76#8,65#8,124#8,83#8,82#8,65#8,124#8,83#8,76#8,76#8,124#8,83#8,82#8,76#8]
def rotsT:List Str:=[[82#8,76#8,67#8],[82#8,82#8,67#8],[82#8,76#8],[82#8,82#8],[83#8,76#8,65#8],[83#8,82#8,65#8],[83#8,76#8,76#8],[83#8,82#8,76#8]]
theorem rotsT_eq:splitS rotsL 124#8=rotsT:=by decide +kernel
def bitnL:Str:=[124#8,66#8,73#8,84#8,32#8,124#8,82#8,69#8,83#8,32#8,124#8,83#8,69#8,84#8,32#8]
def bitnT:List Str:=[[],[66#8,73#8,84#8,32#8],[82#8,69#8,83#8,32#8],[83#8,69#8,84#8,32#8]]
theorem bitnT_eq:splitS bitnL 124#8=bitnT:=by decide +kernel
def manyL:Str:=[76#8,68#8,73#8,124#8,67#8,80#8,73#8,124#8,73#8,78#8,73#8,124#8,79#8,85#8,84#8,73#8,124#8,76#8,68#8,68#8,124#8,67#8,80#8,68#8,124#8,73#8,78#8,68#8,124#8,79#8,85#8,84#8,68#8,124#8,76#8,68#8,73#8,82#8,124#8,67#8,80#8,73#8,82#8,124#8,73#8,78#8,73#8,82#8,124#8,79#8,84#8,73#8,82#8,124#8,76#8,68#8,68#8,82#8,124#8,67#8,80#8,68#8,82#8,124#8,73#8,78#8,68#8,82#8,124#8,79#8,84#8,68#8,82#8]
def manyT:List Str:=[[76#8,68#8,73#8],[67#8,80#8,73#8],[73#8,78#8,73#8],[79#8,85#8,84#8,73#8],[76#8,68#8,68#8],[67#8,80#8,68#8],[73#8,78#8,68#8],[79#8,85#8,84#8,68#8],[76#8,68#8,73#8,82#8],[67#8,80#8,73#8,82#8],[73#8,78#8,73#8,82#8],[79#8,84#8,73#8,82#8],[76#8,68#8,68#8,82#8],[67#8,80#8,68#8,82#8],[73#8,78#8,68#8,82#8],[79#8,84#8,68#8,82#8]]
theorem manyT_eq:splitS manyL 124#8=manyT:=by decide +kernel
theorem firstT_len:firstT.length=64:=by decide
theorem lastT_len:lastT.length=64:=by decide
theorem extT_len:extT.length=64:=by decide
theorem onesT_len:onesT.length=8:=by decide
theorem sumsT_len:sumsT.length=8:=by decide
theorem rotsT_len:rotsT.length=8:=by decide
theorem bitnT_len:bitnT.length=4:=by decide
theorem manyT_len:manyT.length=16:=by decide
def plainS (op:BitVec 8):Str:=
  if op<64#8 then firstT.getD op.toNat [] else if op==118#8 then [72#8,65#8,76#8,84#8] else if op<128#8 then [76#8,68#8,32#8]++onesT.getD (op / 8#8%8#8).toNat []++[44#8]++onesT.getD (op%8#8).toNat []
  else if op<192#8 then sumsT.getD (op / 8#8%8#8).toNat []++onesT.getD (op%8#8).toNat [] else lastT.getD (op-192#8).toNat []
def bitsN (op:BitVec 8) (x:Str):Str:=
  if op<64#8 then rotsT.getD (op / 8#8).toNat []++[32#8]++x else bitnT.getD (op / 64#8).toNat []++[BitVec.ofNat 8 (48+(op / 8#8%8#8).toNat)]++[44#8]++x
def extN (op:BitVec 8):Str:=
  if decide (64#8≤op)&&decide (op<128#8) then extT.getD (op-64#8).toNat [] else if decide (160#8≤op)&&decide (op<192#8)&&decide (op%8#8<4#8) then manyT.getD ((op-160#8) / 8#8*4#8+op%8#8).toNat [] else [78#8,79#8,80#8]
def replK (old by_:Str):Str→Nat→Str
  | [],_=>[]
  | _ :: r,k+1=>replK old by_ r k
  | c :: r,0=>if old.isPrefixOf (c :: r) then by_++replK old by_ r (old.length-1) else c :: replK old by_ r 0
def replS (s old by_:Str):Str:=replK old by_ s 0
def hasS (s part:Str):Bool:=replS s part []!=s
def idxParts (ix:Str):Nat→List Str→Str→Str
  | _,[],o=>o
  | i,x :: r,o=>idxParts ix (i+1) r ((if 0<i then o++[44#8] else o)++(if x==[72#8]||x==[76#8] then ix++x else x))
def idxN (op:BitVec 8) (ix:Str):Str:=
  if plainS op==[69#8,88#8,32#8,68#8,69#8,44#8,72#8,76#8] then plainS op else if plainS op==[74#8,80#8,32#8,40#8,72#8,76#8,41#8] then [74#8,80#8,32#8,40#8]++ix++[41#8]
  else if hasS (plainS op) [40#8,72#8,76#8,41#8] then replS (plainS op) [40#8,72#8,76#8,41#8] ([40#8]++ix++[43#8,100#8,41#8])
  else if hasS (plainS op) [72#8,76#8] then replS (plainS op) [72#8,76#8] ix
  else if(splitS (plainS op) 32#8).length<2 then plainS op
  else idxParts ix 0 (splitS ((splitS (plainS op) 32#8).getD 1 []) 44#8) ((splitS (plainS op) 32#8).getD 0 []++[32#8])
def patS (page:Nat) (op:BitVec 8):Str:=
  if page=0 then plainS op else if page=1 then bitsN op (onesT.getD (op%8#8).toNat []) else if page=2 then extN op else if page=3 then idxN op [73#8,88#8] else if page=4 then idxN op [73#8,89#8]
  else
    let s:=bitsN op ([40#8]++(if page=5 then [73#8,88#8] else [73#8,89#8])++[43#8,100#8,41#8])
    if(op / 64#8 !=1#8)&&(op%8#8 !=6#8) then s++([44#8]++onesT.getD (op%8#8).toNat []) else s
theorem replK_skip (old by_:Str):∀(s:Str) (k:Nat),replK old by_ s k=replK old by_ (s.drop k) 0
  | [],k=>by rw[List.drop_nil]; cases k <;> rfl
  | c :: r,0=>rfl
  | c :: r,k+1=>by
    show replK old by_ r k=_
    rw[replK_skip old by_ r k]; rfl
theorem rep_hit {s old by_:Str} {i:Nat} (ho:0<old.length) (hi:i+old.length≤s.length) (h:(List.take old.length (List.drop i s)==old)=true):replK old by_ (s.drop i) 0=by_++replK old by_ (s.drop (i+old.length)) 0:=by
  have hi1:i<s.length:=by omega
  have hp:old.isPrefixOf (s.drop i)=true:=by
    rw[List.isPrefixOf_iff_prefix,List.prefix_iff_eq_take]
    exact(eq_of_beq h).symm
  rw[drop_cons hi1] at hp ⊢
  show(if old.isPrefixOf (_ :: _) then _ else _)=_
  rw[if_pos hp,replK_skip,List.drop_drop,show i+1+(old.length-1)=i+old.length by omega]
theorem rep_miss {s old by_:Str} {i:Nat} (hi:i<s.length) (h:i+old.length≤s.length→(List.take old.length (List.drop i s)==old)=false):replK old by_ (s.drop i) 0=s.getD i 0#8 :: replK old by_ (s.drop (i+1)) 0:=by
  have hp:¬old.isPrefixOf (s.drop i)=true:=by
    rw[List.isPrefixOf_iff_prefix,List.prefix_iff_eq_take]
    intro e
    have hl:old.length≤(s.drop i).length:=by
      have:=congrArg List.length e
      rw[List.length_take] at this
      omega
    rw[List.length_drop] at hl
    have:=h (by omega)
    rw[← e] at this
    simp at this
  rw[drop_cons hi] at hp ⊢
  show(if old.isPrefixOf (_ :: _) then _ else _)=_
  rw[if_neg hp]
theorem replK_len (old by_:Str) (B:Nat) (hb:by_.length≤B):∀(s:Str) (k:Nat),(replK old by_ s k).length≤s.length*(B+1)
  | [],k=>by simp[replK]
  | c :: r,k+1=>by
    have:=replK_len old by_ B hb r k
    show(replK old by_ r k).length≤_
    simp only[List.length_cons,Nat.add_mul]; omega
  | c :: r,0=>by
    unfold replK
    split
    · have:=replK_len old by_ B hb r (old.length-1)
      simp only[List.length_append,List.length_cons,Nat.add_mul]; omega
    · have:=replK_len old by_ B hb r 0
      simp only[List.length_cons,Nat.add_mul]; omega
theorem getD_le {l:List Str} {B:Nat} (h:l.all (fun x=>decide (x.length≤B))=true) (i:Nat):(l.getD i []).length≤B:=by
  rw[List.getD_eq_getElem?_getD]
  cases e:l[i]? with
  | none=>exact Nat.zero_le _
  | some x=>exact of_decide_eq_true (List.all_eq_true.1 h x (List.mem_of_getElem? e))
theorem onesN_le (i:Nat):(onesT.getD i []).length≤4:=getD_le (by decide) i
theorem sums_le (i:Nat):(sumsT.getD i []).length≤6:=getD_le (by decide) i
theorem rots_le (i:Nat):(rotsT.getD i []).length≤3:=getD_le (by decide) i
theorem bitn_le (i:Nat):(bitnT.getD i []).length≤4:=getD_le (by decide) i
theorem plain_len:∀op:BitVec 8,(plainS op).length≤12:=by decide +kernel
end Go.Proofs.Joy
namespace Go.Proofs.Joy
open Go.Ab Go.Proofs
set_option maxHeartbeats 2000000
set_option maxRecDepth 20000
def RowK (H:Heap) (n:Nat) (l:List Str) (K:AV→Heap→Nat→Prop):Prop:=
  ∀H' n' q,H'.wf n'→n≤n'→n≤q→q<n'→H' q=some ⟨l.map .st,9,false⟩→(∀i,i<n→H' i=H i)→K (.su q 0 l.length 1) H' n'
theorem z_first (H:Heap) (n:Nat) (K:AV→Heap→Nat→Prop) (h:RowK H n firstT K):ACalls Tryz.prog 84 [] H n K:=by
  refine ACalls.of_awp Tryz.func84 rfl (by decide +kernel) (show 0≤2 by decide) (by simp) fun wf=>?_
  refine awp_ev dr0 (by decide +kernel) ?_
  simp only[go_sem,Tryz.f84]
  refine z_split11 firstL _ (by decide) _ _ _ ?_
  rw[firstT_eq]
  intro H' n' q w l1 l2 l3 l4 l5
  simp only[go_sem]
  exact Fin.keep (h H' n' q w l1 l2 l3 l4 l5)
theorem z_last (H:Heap) (n:Nat) (K:AV→Heap→Nat→Prop) (h:RowK H n lastT K):ACalls Tryz.prog 86 [] H n K:=by
  refine ACalls.of_awp Tryz.func86 rfl (by decide +kernel) (show 0≤2 by decide) (by simp) fun wf=>?_
  refine awp_ev dr0 (by decide +kernel) ?_
  simp only[go_sem,Tryz.f86]
  refine z_split11 lastL _ (by decide) _ _ _ ?_
  rw[lastT_eq]
  intro H' n' q w l1 l2 l3 l4 l5
  simp only[go_sem]
  exact Fin.keep (h H' n' q w l1 l2 l3 l4 l5)
theorem z_exts (H:Heap) (n:Nat) (K:AV→Heap→Nat→Prop) (h:RowK H n extT K):ACalls Tryz.prog 124 [] H n K:=by
  refine ACalls.of_awp Tryz.func124 rfl (by decide +kernel) (show 0≤2 by decide) (by simp) fun wf=>?_
  refine awp_ev dr0 (by decide +kernel) ?_
  simp only[go_sem,Tryz.f124]
  refine z_split11 extL _ (by decide) _ _ _ ?_
  rw[extT_eq]
  intro H' n' q w l1 l2 l3 l4 l5
  simp only[go_sem]
  exact Fin.keep (h H' n' q w l1 l2 l3 l4 l5)
theorem z_ones (H:Heap) (n:Nat) (K:AV→Heap→Nat→Prop) (h:RowK H n onesT K):ACalls Tryz.prog 68 [] H n K:=by
  refine ACalls.of_awp Tryz.func68 rfl (by decide +kernel) (show 0≤2 by decide) (by simp) fun wf=>?_
  refine awp_ev dr0 (by decide +kernel) ?_
  simp only[go_sem,Tryz.f68]
  refine z_split11 onesL _ (by decide) _ _ _ ?_
  rw[onesT_eq]
  intro H' n' q w l1 l2 l3 l4 l5
  simp only[go_sem]
  exact Fin.keep (h H' n' q w l1 l2 l3 l4 l5)
theorem st_getD {l:List Str} {i:Nat} (h:i<l.length):(l.map AV.st).getD i .junk=.st (l.getD i []):=by
  simp[List.getD_eq_getElem?_getD,h]
theorem m8 (x:BitVec 8):(x%8#8).toNat<8:=by rw[BitVec.toNat_umod]; exact Nat.mod_lt _ (by decide)
theorem z_plain (op:BitVec 8) (H:Heap) (n:Nat) (K:AV→Heap→Nat→Prop) (h:K (.st (plainS op)) H n):ACalls Tryz.prog 32 [.u8 op] H n K:=by
  have hop:=op.isLt
  refine ACalls.of_awp Tryz.func32 rfl (by decide +kernel) (show 1≤50 by decide) (by simp) fun wf=>?_
  refine awp_ev dr32 (by decide +kernel) ?_
  simp only[go_sem,Tryz.f32]
  unfold plainS at h
  refine⟨fun e=>?_,fun e=>⟨fun e2=>?_,fun e2=>⟨fun e3=>?_,fun e3=>⟨fun e4=>?_,fun e4=>?_⟩⟩⟩⟩
  · rw[if_pos e] at h
    have e1:op.toNat<64:=by simpa [BitVec.lt_def] using e
    refine z_first _ _ _ fun H' n' q w l1 l2 l3 l4 l5=>?_
    simp only[go_sem,l4,List.length_map,firstT_len,st_getD (l:=firstT) (i:=op.toNat) (by rw[firstT_len]; exact e1)]
    exact⟨by omega,by omega,Fin.back wf h l5 rfl⟩
  · rw[if_neg e,if_pos e2] at h
    exact Fin.back wf h (fun _ _=>rfl) rfl
  · rw[if_neg e,if_neg (by rw[e2]; decide),if_pos e3] at h
    refine z_ones _ _ _ fun H' n' q w l1 l2 l3 l4 l5=>?_
    simp only[go_sem,l4,List.length_map,onesT_len,st_getD (l:=onesT) (i:=(op / 8#8%8#8).toNat) (by rw[onesT_len]; exact m8 _)]
    refine⟨by have:=m8 (op / 8#8); omega,by have:=m8 (op / 8#8); omega,?_⟩
    have o1:=onesN_le (op / 8#8%8#8).toNat
    refine⟨by omega,by omega,?_⟩
    refine z_ones _ _ _ fun H2 n2 q2 w2 k1 k2 k3 k4 k5=>?_
    have k6:=(k5 q l3).trans l4
    have o2:=onesN_le (op%8#8).toNat
    simp only[go_sem,k4,k6,List.length_map,onesT_len,st_getD (l:=onesT) (i:=(op / 8#8%8#8).toNat) (by rw[onesT_len]; exact m8 _),st_getD (l:=onesT) (i:=(op%8#8).toNat) (by rw[onesT_len]; exact m8 _)]
    refine⟨m8 _,by have:=m8 op; omega,m8 _,by rw[List.length_append,List.length_singleton]; omega,Fin.back wf ?_ (fun i hi=>(k5 i (by omega)).trans (l5 i hi)) rfl⟩
    simpa using h
  · rw[if_neg e,if_neg (by rw[e2]; decide),if_neg e3,if_pos e4] at h
    refine z_split11 sumsL _ (by decide) _ _ _ ?_
    rw[sumsT_eq]
    intro H' n' q w l1 l2 l3 l4 l5
    simp only[go_sem,l4,List.length_map,sumsT_len,st_getD (l:=sumsT) (i:=(op / 8#8%8#8).toNat) (by rw[sumsT_len]; exact m8 _)]
    refine⟨by have:=m8 (op / 8#8); omega,by have:=m8 (op / 8#8); omega,?_⟩
    have o1:=sums_le (op / 8#8%8#8).toNat
    refine z_ones _ _ _ fun H2 n2 q2 w2 k1 k2 k3 k4 k5=>?_
    have k6:=(k5 q l3).trans l4
    have o2:=onesN_le (op%8#8).toNat
    simp only[go_sem,k4,k6,List.length_map,onesT_len,sumsT_len,st_getD (l:=sumsT) (i:=(op / 8#8%8#8).toNat) (by rw[sumsT_len]; exact m8 _),st_getD (l:=onesT) (i:=(op%8#8).toNat) (by rw[onesT_len]; exact m8 _)]
    exact⟨m8 _,by have:=m8 op; omega,m8 _,by omega,Fin.back wf h (fun i hi=>(k5 i (by omega)).trans (l5 i hi)) rfl⟩
  · rw[if_neg e,if_neg (by rw[e2]; decide),if_neg e3,if_neg e4] at h
    refine z_last _ _ _ fun H' n' q w l1 l2 l3 l4 l5=>?_
    have e5:192≤op.toNat:=by simpa [BitVec.lt_def] using e4
    have e6:(op-192#8).toNat=op.toNat-192:=by simp[BitVec.toNat_sub]; omega
    simp only[go_sem,l4,List.length_map,lastT_len,st_getD (l:=lastT) (i:=(op-192#8).toNat) (by rw[lastT_len,e6]; omega)]
    exact⟨by omega,by omega,Fin.back wf h l5 rfl⟩
theorem d8 (x:BitVec 8):(x / 8#8).toNat=x.toNat / 8:=by rw[BitVec.toNat_udiv]; rfl
theorem d64 (x:BitVec 8):(x / 64#8).toNat=x.toNat / 64:=by rw[BitVec.toNat_udiv]; rfl
theorem digit_take {k:Nat} (hk:k<8):List.take (k+1-k) (List.drop k [48#8,49#8,50#8,51#8,52#8,53#8,54#8,55#8])=[BitVec.ofNat 8 (48+k)]:=by
  rcases (by omega:k=0∨k=1∨k=2∨k=3∨k=4∨k=5∨k=6∨k=7) with rfl | rfl | rfl | rfl | rfl | rfl | rfl | rfl <;> rfl
theorem z_bitsN (op:BitVec 8) (x:Str) (hx:x.length≤1000) (H:Heap) (n:Nat) (K:AV→Heap→Nat→Prop) (h:K (.st (bitsN op x)) H n):ACalls Tryz.prog 67 [.u8 op,.st x] H n K:=by
  have hop:=op.isLt
  refine ACalls.of_awp Tryz.func67 rfl (by decide +kernel) (show 2≤32 by decide) (by simp) fun wf=>?_
  refine awp_ev dr67 (by decide +kernel) ?_
  simp only[go_sem,Tryz.f67]
  unfold bitsN at h
  refine⟨fun e=>?_,fun e=>?_⟩
  · rw[if_pos e] at h
    have e1:op.toNat<64:=by simpa [BitVec.lt_def] using e
    refine z_split11 rotsL _ (by decide) _ _ _ ?_
    rw[rotsT_eq]
    intro H' n' q w l1 l2 l3 l4 l5
    have o1:=rots_le (op / 8#8).toNat
    have o2:=d8 op
    simp only[go_sem,l4,List.length_map,rotsT_len,st_getD (l:=rotsT) (i:=(op / 8#8).toNat) (by rw[rotsT_len]; omega)]
    refine⟨by omega,by omega,by omega,by rw[List.length_append,List.length_singleton]; omega,Fin.back wf ?_ l5 rfl⟩
    simp only[List.append_assoc,List.cons_append,List.nil_append] at h ⊢
    exact h
  · rw[if_neg e] at h
    have q8:=m8 (op / 8#8)
    have q9:(op / 8#8%8#8+1#8).toNat=(op / 8#8%8#8).toNat+1:=by rw[BitVec.toNat_add]; simp only[BitVec.toNat_ofNat]; omega
    have dg:=digit_take q8
    rw[q9]
    refine⟨by omega,by omega,?_⟩
    refine z_split11 bitnL _ (by decide) _ _ _ ?_
    rw[bitnT_eq]
    intro H' n' q w l1 l2 l3 l4 l5
    have o1:=bitn_le (op / 64#8).toNat
    have o2:=d64 op
    simp only[go_sem,l4,List.length_map,bitnT_len,st_getD (l:=bitnT) (i:=(op / 64#8).toNat) (by rw[bitnT_len]; omega),dg]
    refine⟨by omega,by omega,by omega,by rw[List.length_append,List.length_singleton]; omega,by rw[List.length_append,List.length_append,List.length_singleton,List.length_singleton]; omega,Fin.back wf ?_ l5 rfl⟩
    simp only[List.append_assoc,List.cons_append,List.nil_append] at h ⊢
    exact h
theorem ext_ix (op:BitVec 8) (h1:160≤op.toNat) (h2:op.toNat<192) (h3:op.toNat%8<4):((op-160#8) / 8#8*4#8+op%8#8).toNat<16:=by revert op; decide +kernel
theorem z_extN (op:BitVec 8) (H:Heap) (n:Nat) (K:AV→Heap→Nat→Prop) (h:K (.st (extN op)) H n):ACalls Tryz.prog 69 [.u8 op] H n K:=by
  have hop:=op.isLt
  have c1:64#8≤op↔64≤op.toNat:=by simp[BitVec.le_def]
  have c2:op<128#8↔op.toNat<128:=by simp[BitVec.lt_def]
  have c3:160#8≤op↔160≤op.toNat:=by simp[BitVec.le_def]
  have c4:op<192#8↔op.toNat<192:=by simp[BitVec.lt_def]
  have c5:op%8#8<4#8↔op.toNat%8<4:=by simp[BitVec.lt_def,BitVec.toNat_umod]
  refine ACalls.of_awp Tryz.func69 rfl (by decide +kernel) (show 1≤35 by decide) (by simp) fun wf=>?_
  refine awp_ev dr0 (by decide +kernel) ?_
  unfold extN at h
  by_cases d1:64≤op.toNat∧op.toNat<128
  · have e1:=c1.2 d1.1
    have e2:=c2.2 d1.2
    rw[decide_eq_true e1,decide_eq_true e2] at h
    clear c1 c2 c3 c4 c5
    simp only[go_sem,Tryz.f69,e1,e2]
    refine z_exts _ _ _ fun H' n' q w l1 l2 l3 l4 l5=>?_
    have e6:(op-64#8).toNat=op.toNat-64:=by rw[BitVec.toNat_sub]; simp only[BitVec.toNat_ofNat]; omega
    simp only[go_sem,l4,List.length_map,extT_len,st_getD (l:=extT) (i:=(op-64#8).toNat) (by rw[extT_len]; omega)]
    exact⟨by omega,by omega,Fin.back wf h l5 rfl⟩
  · rw[if_neg (by rw[Bool.and_eq_true,decide_eq_true_eq,decide_eq_true_eq,c1,c2]; exact d1)] at h
    by_cases d2:160≤op.toNat∧op.toNat<192∧op.toNat%8<4
    · have e1:=c3.2 d2.1
      have e2:=c4.2 d2.2.1
      have e3:=c5.2 d2.2.2
      have e4:64#8≤op:=c1.2 (by omega)
      have e5:¬op<128#8:=fun q=>by have:=c2.1 q; omega
      have e6:=ext_ix op d2.1 d2.2.1 d2.2.2
      rw[decide_eq_true e1,decide_eq_true e2,decide_eq_true e3] at h
      clear c1 c2 c3 c4 c5
      simp only[go_sem,Tryz.f69,e1,e2,e3,e4,e5]
      refine z_split11 manyL _ (by decide) _ _ _ ?_
      rw[manyT_eq]
      intro H' n' q w l1 l2 l3 l4 l5
      simp only[go_sem,l4,List.length_map,manyT_len,st_getD (l:=manyT) (i:=((op-160#8) / 8#8*4#8+op%8#8).toNat) (by rw[manyT_len]; exact e6)]
      exact⟨by omega,by omega,Fin.back wf h l5 rfl⟩
    · rw[if_neg (by rw[Bool.and_eq_true,Bool.and_eq_true,decide_eq_true_eq,decide_eq_true_eq,decide_eq_true_eq,c3,c4,c5]; omega)] at h
      simp only[go_sem,Tryz.f69]
      repeat' first
        | with_reducible refine And.intro ?_ ?_
        | intro e
      all_goals first
        | exact Fin.back wf h (fun _ _=>rfl) rfl
        | (exfalso; simp only[c1,c2,c3,c4,c5] at*; omega)
theorem z_replace (s old by_:Str) (ho:0<old.length) (hs:s.length≤1000) (hb:by_.length≤1000) (ho2:old.length≤1000) (H:Heap) (n:Nat) (K:AV→Heap→Nat→Prop) (h:K (.st (replS s old by_)) H n):ACalls Tryz.prog 33 [.st s,.st old,.st by_] H n K:=by
  refine ACalls.of_awp Tryz.func33 rfl (by decide +kernel) (show 3≤48 by decide) (by simp) fun wf=>?_
  refine awp_step dr0 (by decide +kernel) ?_
  simp only[go_sem,Tryz.f33]
  refine awp_step dr0 (by decide +kernel) ?_
  simp only[go_sem]
  refine awp_seq ?_
  refine awp_step dr0 (by decide +kernel) ?_
  simp only[go_sem]
  refine awp_block ?_
  refine awp_loopF (S:=Nat×Str) (fun x=>[(0,.st s),(1,.st old),(2,.st by_),(7,.st x.2),(8,.i64 x.1)]) (fun _=>H) (fun _=>n)
    (fun x=>x.1≤s.length∧x.2.length≤x.1*1001∧x.2++replK old by_ (s.drop x.1) 0=replS s old by_) (fun x=>s.length-x.1)
    (fun x _=>⟨wf,Env.okAt_of2 (by simp[AV.ok])⟩) ?_ (0,[]) ⟨Nat.zero_le _,Nat.zero_le _,rfl⟩ (by repeat (first | exact Env.le_nil _ | refine Env.le_cons rfl ?_)) (fun _ _=>rfl) rfl
  rintro⟨i,o⟩ ⟨hi,hol,hr⟩
  simp only at hi hol hr ⊢
  refine awp_step dr0 (by decide +kernel) ?_
  simp only[go_sem]
  refine⟨fun hlt=>?_,fun hge=>?_⟩
  · have hi1:i<s.length:=by omega
    have w1:wrap64 ((i:Int)+(old.length:Int))=((i+old.length:Nat):Int):=by rw[wrap_id _ (by omega) (by omega)]; omega
    have w2:wrap64 ((i:Int)+1)=((i+1:Nat):Int):=by rw[wrap_id _ (by omega) (by omega)]; omega
    refine awp_ev dr0 (by decide +kernel) ?_
    simp only[go_sem,w1,w2]
    have miss:(i+old.length≤s.length→(List.take old.length (List.drop i s)==old)=false)→∀X:Env,Env.le [(0,.st s),(1,.st old),(2,.st by_),(7,.st (o++List.take (i+1-i) (List.drop i s))),(8,.i64 (i+1:Nat))] X→
        Go.Ab.Ends (fun x:Nat×Str=>[(0,.st s),(1,.st old),(2,.st by_),(7,.st x.2),(8,.i64 x.1)]) (fun _=>H) (fun _=>n) (fun s'=>s.length-s'.1<s.length-i∧s'.1≤s.length∧s'.2.length≤s'.1*1001∧s'.2++replK old by_ (s.drop s'.1) 0=replS s old by_) n X H n:=by
      intro hmiss X hX
      rw[show i+1-i=1 by omega,take_one hi1] at hX
      refine Ends.mk ((i+1,o++[s.getD i 0#8]):Nat×Str) ⟨by simp only; omega,by simp only; omega,by simp only[List.length_append,List.length_singleton]; omega,?_⟩ hX (fun _ _=>rfl) (Nat.le_refl _) (Nat.le_refl _)
      simp only
      rw[List.append_assoc,List.singleton_append,← rep_miss hi1 hmiss]; exact hr
    have tk:(List.take (i+1-i) (List.drop i s)).length≤1:=by rw[List.length_take]; omega
    refine⟨fun e=>⟨by omega,by omega,fun e2=>⟨by omega,?_⟩,fun e2=>⟨by omega,by omega,by omega,?_⟩⟩,fun e=>⟨by omega,by omega,by omega,?_⟩⟩
    · rw[show i+old.length-i=old.length by omega] at e2
      refine Ends.mk ((i+old.length,o++by_):Nat×Str) ⟨by simp only; omega,by simp only; omega,by simp only[List.length_append]; omega,?_⟩ (by repeat (first | exact Env.le_nil _ | refine Env.le_cons rfl ?_)) (fun _ _=>rfl) (Nat.le_refl _) (Nat.le_refl _)
      simp only
      rw[List.append_assoc,← rep_hit ho (by omega) e2]; exact hr
    · rw[show i+old.length-i=old.length by omega] at e2
      exact miss (fun _=>e2) _ (by repeat (first | exact Env.le_nil _ | refine Env.le_cons rfl ?_))
    · exact miss (fun q=>absurd q (by omega)) _ (by repeat (first | exact Env.le_nil _ | refine Env.le_cons rfl ?_))
  · obtain rfl:i=s.length:=by omega
    rw[List.drop_length] at hr
    simp only[replK,List.append_nil] at hr
    refine awp_ev dr0 (by decide +kernel) ?_
    simp only[go_sem]
    rw[hr]
    exact Fin.back wf h (fun _ _=>rfl) rfl
theorem z_has (s part:Str) (ho:0<part.length) (hs:s.length≤1000) (ho2:part.length≤1000) (H:Heap) (n:Nat) (K:AV→Heap→Nat→Prop) (h:K (.bo (hasS s part)) H n):ACalls Tryz.prog 15 [.st s,.st part] H n K:=by
  refine ACalls.of_awp Tryz.func15 rfl (by decide +kernel) (show 2≤10 by decide) (by simp) fun wf=>?_
  refine awp_ev dr0 (by decide +kernel) ?_
  simp only[go_sem,Tryz.f15]
  refine z_replace _ _ _ ho hs (by decide) ho2 _ _ _ ?_
  simp only[go_sem]
  exact Fin.back wf h (fun _ _=>rfl) rfl
theorem z_idxN (op:BitVec 8) (ix:Str) (hx:ix.length≤10) (H:Heap) (n:Nat) (K:AV→Heap→Nat→Prop) (h:K (.st (idxN op ix)) H n):ACalls Tryz.prog 70 [.u8 op,.st ix] H n K:=by
  refine ACalls.of_awp Tryz.func70 rfl (by decide +kernel) (show 2≤72 by decide) (by simp) fun wf=>?_
  have hl:=plain_len op
  refine awp_step dr0 (by decide +kernel) ?_
  simp only[go_sem,Tryz.f70]
  refine awp_step dr0 (by decide +kernel) ?_
  simp only[go_sem]
  refine z_plain _ _ _ _ ?_
  simp only[go_sem]
  unfold idxN at h
  generalize plainS op=s at h hl ⊢
  refine awp_step dr0 (by decide +kernel) ?_
  simp only[go_sem]
  refine⟨fun e=>?_,fun e=>?_⟩
  · rw[if_pos e] at h
    exact Fin.back wf h (fun _ _=>rfl) rfl
  rw[if_neg (by rw[e]; decide)] at h
  clear e
  refine awp_step dr0 (by decide +kernel) ?_
  simp only[go_sem]
  refine⟨fun e=>?_,fun e=>?_⟩
  · rw[if_pos e] at h
    exact⟨by omega,by omega,Fin.back wf h (fun _ _=>rfl) rfl⟩
  rw[if_neg (by rw[e]; decide)] at h
  clear e
  refine awp_step dr0 (by decide +kernel) ?_
  simp only[go_sem]
  refine z_has _ _ (by decide) (by omega) (by decide) _ _ _ ?_
  simp only[go_sem]
  refine⟨fun e=>?_,fun e=>?_⟩
  · rw[if_pos e] at h
    refine⟨by omega,by omega,?_⟩
    refine z_replace _ _ _ (by decide) (by omega) (by simp; omega) (by decide) _ _ _ ?_
    simp only[go_sem]
    exact Fin.back wf h (fun _ _=>rfl) rfl
  rw[if_neg (by rw[e]; decide)] at h
  clear e
  refine awp_step dr0 (by decide +kernel) ?_
  simp only[go_sem]
  refine z_has _ _ (by decide) (by omega) (by decide) _ _ _ ?_
  simp only[go_sem]
  refine⟨fun e=>?_,fun e=>?_⟩
  · rw[if_pos e] at h
    refine z_replace _ _ _ (by decide) (by omega) (by omega) (by decide) _ _ _ ?_
    simp only[go_sem]
    exact Fin.back wf h (fun _ _=>rfl) rfl
  rw[if_neg (by rw[e]; decide)] at h
  clear e
  refine awp_step dr0 (by decide +kernel) ?_
  simp only[go_sem]
  refine z_split11 _ _ (by omega) _ _ _ ?_
  have sl:=splitG_len 32#8 s [] []
  have spl:∀i,((splitS s 32#8).getD i []).length≤12:=split_le s 32#8 hl
  generalize splitS s 32#8=ws at h spl ⊢
  intro X m q xw x1 x2 x3 xq xf
  simp only[go_sem]
  refine awp_step dr0 (by decide +kernel) ?_
  simp only[go_sem]
  refine⟨fun e=>?_,fun e=>?_⟩
  · rw[if_pos (by omega)] at h
    exact Fin.back wf h xf rfl
  rw[if_neg (by omega)] at h
  have hw1:=st_getD (l:=ws) (i:=1) (by omega)
  have hw0:=st_getD (l:=ws) (i:=0) (by omega)
  refine awp_step dr0 (by decide +kernel) ?_
  simp only[go_sem,xq,hw1,List.length_map]
  refine⟨by omega,by omega,?_⟩
  have l1:=spl 1
  have l0:=spl 0
  refine z_split11 _ _ (by omega) _ _ _ ?_
  have spl2:∀i,((splitS (ws.getD 1 []) 44#8).getD i []).length≤12:=split_le _ 44#8 l1
  have hpl:=splitS_len (ws.getD 1 []) 44#8
  generalize splitS (ws.getD 1 []) 44#8=ps at h spl2 hpl ⊢
  intro Y k q2 yw y1 y2 y3 yq yf
  have yq1:=(yf q x3).trans xq
  have hY:∀i,i<n→Y i=H i:=fun i hi=>(yf i (by omega)).trans (xf i hi)
  simp only[go_sem]
  refine awp_step dr0 (by decide +kernel) ?_
  simp only[go_sem,yq1,hw0,List.length_map]
  refine⟨by omega,by omega,by omega,?_⟩
  refine awp_seq ?_
  refine awp_step dr0 (by decide +kernel) ?_
  simp only[go_sem]
  refine awp_block ?_
  refine awp_loopF (S:=Nat×Str) (fun x=>[(1,.st ix),(8,.st x.2),(47,.su q2 0 ps.length 1),(48,.i64 ps.length),(49,.i64 x.1)]) (fun _=>Y) (fun _=>k)
    (fun x=>x.1≤ps.length∧x.2.length≤1000+x.1*1000∧idxParts ix x.1 (ps.drop x.1) x.2=idxParts ix 0 ps (ws.getD 0 []++[32#8])) (fun x=>ps.length-x.1)
    (fun x _=>⟨yw,Env.okAt_of2 (by simp[AV.ok,y3])⟩) ?_ (0,ws.getD 0 []++[32#8]) ⟨Nat.zero_le _,by rw[List.length_append,List.length_singleton]; omega,rfl⟩ (by repeat (first | exact Env.le_nil _ | refine Env.le_cons rfl ?_)) (fun _ _=>rfl) rfl
  rintro⟨j,o⟩ ⟨hj,ho,hr⟩
  simp only at hj ho hr ⊢
  refine awp_step dr0 (by decide +kernel) ?_
  simp only[go_sem]
  refine awp_step dr0 (by decide +kernel) ?_
  simp only[go_sem]
  refine⟨fun hlt=>?_,fun hge=>?_⟩
  · have hj1:j<ps.length:=by omega
    have w2:wrap64 ((j:Int)+1)=((j+1:Nat):Int):=by rw[wrap_id _ (by omega) (by omega)]; omega
    have hpj:=st_getD (l:=ps) (i:=j) hj1
    have sj:=spl2 j
    rw[List.drop_eq_getElem_cons hj1,show ps[j]=ps.getD j [] by simp[List.getD_eq_getElem?_getD,hj1]] at hr
    simp only[idxParts] at hr
    refine awp_ev dr0 (by decide +kernel) ?_
    simp only[go_sem,yq,hpj,List.length_map,w2]
    have fin:∀o2:Str,o2.length≤1000+(j+1)*1000→idxParts ix (j+1) (ps.drop (j+1)) o2=idxParts ix 0 ps (ws.getD 0 []++[32#8])→∀E:Env,Env.le [(1,.st ix),(8,.st o2),(47,.su q2 0 ps.length 1),(48,.i64 ps.length),(49,.i64 (j+1:Nat))] E→
        Go.Ab.Ends (fun x:Nat×Str=>[(1,.st ix),(8,.st x.2),(47,.su q2 0 ps.length 1),(48,.i64 ps.length),(49,.i64 x.1)]) (fun _=>Y) (fun _=>k) (fun s'=>ps.length-s'.1<ps.length-j∧s'.1≤ps.length∧s'.2.length≤1000+s'.1*1000∧idxParts ix s'.1 (ps.drop s'.1) s'.2=idxParts ix 0 ps (ws.getD 0 []++[32#8])) k E Y k:=
      fun o2 h1 h2 E hE=>Ends.mk ((j+1,o2):Nat×Str) ⟨by simp only; omega,by simp only; omega,h1,h2⟩ hE (fun _ _=>rfl) (Nat.le_refl _) (Nat.le_refl _)
    have la:∀x y:Str,(x++y).length=x.length+y.length:=fun x y=>List.length_append
    generalize ps.getD j []=z at hr sj ⊢
    refine⟨by omega,hj1,fun e0=>⟨by omega,⟨fun e1=>⟨fun e2=>⟨by omega,by simp only[la,List.length_singleton]; omega,?_⟩,fun e2=>⟨by simp only[la,List.length_singleton]; omega,?_⟩⟩,fun e1=>⟨by omega,by simp only[la,List.length_singleton]; omega,?_⟩⟩⟩,fun e0=>⟨fun e1=>⟨fun e2=>⟨by omega,by simp only[la]; omega,?_⟩,fun e2=>⟨by omega,?_⟩⟩,fun e1=>⟨by omega,by simp only[la]; omega,?_⟩⟩⟩
    · rw[if_pos (by omega),e1,e2] at hr
      simp only[Bool.false_or,Bool.true_or,Bool.or_false,Bool.or_true,Bool.or_self,if_true,if_false,Bool.false_eq_true] at hr
      exact fin _ (by simp only[la,List.length_singleton]; omega) hr _ (by repeat (first | exact Env.le_nil _ | refine Env.le_cons rfl ?_))
    · rw[if_pos (by omega),e1,e2] at hr
      simp only[Bool.false_or,Bool.true_or,Bool.or_false,Bool.or_true,Bool.or_self,if_true,if_false,Bool.false_eq_true] at hr
      exact fin _ (by simp only[la,List.length_singleton]; omega) hr _ (by repeat (first | exact Env.le_nil _ | refine Env.le_cons rfl ?_))
    · rw[if_pos (by omega),e1] at hr
      simp only[Bool.false_or,Bool.true_or,Bool.or_false,Bool.or_true,Bool.or_self,if_true,if_false,Bool.false_eq_true] at hr
      exact fin _ (by simp only[la,List.length_singleton]; omega) hr _ (by repeat (first | exact Env.le_nil _ | refine Env.le_cons rfl ?_))
    · rw[if_neg (by omega),e1,e2] at hr
      simp only[Bool.false_or,Bool.true_or,Bool.or_false,Bool.or_true,Bool.or_self,if_true,if_false,Bool.false_eq_true] at hr
      exact fin _ (by simp only[la]; omega) hr _ (by repeat (first | exact Env.le_nil _ | refine Env.le_cons rfl ?_))
    · rw[if_neg (by omega),e1,e2] at hr
      simp only[Bool.false_or,Bool.true_or,Bool.or_false,Bool.or_true,Bool.or_self,if_true,if_false,Bool.false_eq_true] at hr
      exact fin _ (by simp only[la]; omega) hr _ (by repeat (first | exact Env.le_nil _ | refine Env.le_cons rfl ?_))
    · rw[if_neg (by omega),e1] at hr
      simp only[Bool.false_or,Bool.true_or,Bool.or_false,Bool.or_true,Bool.or_self,if_true,if_false,Bool.false_eq_true] at hr
      exact fin _ (by simp only[la]; omega) hr _ (by repeat (first | exact Env.le_nil _ | refine Env.le_cons rfl ?_))
  · obtain rfl:j=ps.length:=by omega
    rw[List.drop_length] at hr
    simp only[idxParts] at hr
    rw[← hr] at h
    refine awp_ev dr0 (by decide +kernel) ?_
    simp only[go_sem]
    exact Fin.back wf h hY rfl
theorem bitsN_le (op:BitVec 8) (x:Str) (hx:x.length≤10):(bitsN op x).length≤20:=by
  have h1:=rots_le (op / 8#8).toNat
  have h2:=bitn_le (op / 64#8).toNat
  unfold bitsN
  split
  · simp only[List.length_append,List.length_singleton]; omega
  · simp only[List.length_append,List.length_singleton]; omega
theorem z_pattern (page:Nat) (hp:page<7) (op:BitVec 8) (H:Heap) (n:Nat) (K:AV→Heap→Nat→Prop) (h:K (.st (patS page op)) H n):ACalls Tryz.prog 28 [.i64 page,.u8 op] H n K:=by
  rcases (by omega:page=0∨page=1∨page=2∨page=3∨page=4∨page=5∨page=6) with rfl | rfl | rfl | rfl | rfl | rfl | rfl
  all_goals
    simp +decide only[patS,if_true,if_false] at h
    refine ACalls.of_awp Tryz.func28 rfl (by decide +kernel) (show 2≤60 by decide) (by simp) fun wf=>?_
    refine awp_ev dr0 (by decide +kernel) ?_
    simp +decide only[go_sem,Tryz.f28]
  · refine z_plain _ _ _ _ ?_
    simp only[go_sem]
    exact Fin.back wf h (fun _ _=>rfl) rfl
  · refine z_ones _ _ _ fun H' n' q w l1 l2 l3 l4 l5=>?_
    have q8:=m8 op
    have o2:=onesN_le (op%8#8).toNat
    simp only[go_sem,l4,List.length_map,onesT_len,st_getD (l:=onesT) (i:=(op%8#8).toNat) (by rw[onesT_len]; exact q8)]
    refine⟨by omega,by omega,?_⟩
    refine z_bitsN _ _ (by omega) _ _ _ ?_
    simp only[go_sem]
    exact Fin.back wf h l5 rfl
  · refine z_extN _ _ _ _ ?_
    simp only[go_sem]
    exact Fin.back wf h (fun _ _=>rfl) rfl
  · refine z_idxN _ _ (by decide) _ _ _ ?_
    simp only[go_sem]
    exact Fin.back wf h (fun _ _=>rfl) rfl
  · refine z_idxN _ _ (by decide) _ _ _ ?_
    simp only[go_sem]
    exact Fin.back wf h (fun _ _=>rfl) rfl
  · skip
    refine z_bitsN _ _ (by decide) _ _ _ ?_
    have hbl:=bitsN_le op [40#8,73#8,88#8,43#8,100#8,41#8] (by decide)
    simp only[List.cons_append,List.nil_append] at h
    generalize bitsN op [40#8,73#8,88#8,43#8,100#8,41#8]=s at h hbl ⊢
    simp only[go_sem]
    refine⟨fun e=>⟨fun e2=>?_,fun e2=>?_⟩,fun e=>?_⟩
    · rw[if_pos (by rw[e,e2]; rfl)] at h
      refine z_ones _ _ _ fun H' n' q w l1 l2 l3 l4 l5=>?_
      have q8:=m8 op
      have o2:=onesN_le (op%8#8).toNat
      simp only[go_sem,l4,List.length_map,onesT_len,st_getD (l:=onesT) (i:=(op%8#8).toNat) (by rw[onesT_len]; exact q8)]
      exact⟨by omega,by omega,by omega,by omega,Fin.back wf h l5 rfl⟩
    · rw[if_neg (by rw[e,e2]; decide)] at h
      exact Fin.back wf h (fun _ _=>rfl) rfl
    · rw[if_neg (by rw[e,Bool.false_and]; decide)] at h
      exact Fin.back wf h (fun _ _=>rfl) rfl
  · simp +decide only[go_sem,show(wrap64 1).toNat=1 from rfl,List.getD_cons_succ,List.getD_cons_zero]
    refine z_bitsN _ _ (by decide) _ _ _ ?_
    have hbl:=bitsN_le op [40#8,73#8,89#8,43#8,100#8,41#8] (by decide)
    simp only[List.cons_append,List.nil_append] at h
    generalize bitsN op [40#8,73#8,89#8,43#8,100#8,41#8]=s at h hbl ⊢
    simp only[go_sem]
    refine⟨fun e=>⟨fun e2=>?_,fun e2=>?_⟩,fun e=>?_⟩
    · rw[if_pos (by rw[e,e2]; rfl)] at h
      refine z_ones _ _ _ fun H' n' q w l1 l2 l3 l4 l5=>?_
      have q8:=m8 op
      have o2:=onesN_le (op%8#8).toNat
      simp only[go_sem,l4,List.length_map,onesT_len,st_getD (l:=onesT) (i:=(op%8#8).toNat) (by rw[onesT_len]; exact q8)]
      exact⟨by omega,by omega,by omega,by omega,Fin.back wf h l5 rfl⟩
    · rw[if_neg (by rw[e,e2]; decide)] at h
      exact Fin.back wf h (fun _ _=>rfl) rfl
    · rw[if_neg (by rw[e,Bool.false_and]; decide)] at h
      exact Fin.back wf h (fun _ _=>rfl) rfl
end Go.Proofs.Joy
namespace Go.Proofs.Joy
open Go.Ab
set_option maxHeartbeats 1000000
structure XC where
  r:Rg
  to:BitVec 16
  idx:Bool
  pg:Nat
abbrev XM (α:Type):=XC→Eff (α×XC)
structure AX {P:Program} {σ:Type} (W:WC P σ) (T:TypeId) (H0:Heap) (n0:Nat) (F0:Nat→Prop) (k:Nat) (c:XC) (s:σ) (H:Heap) (n:Nat):Prop where
  wf:H.wf n
  le:n0≤n
  blk:H k=some ⟨c.r.cells++[W.v,.u16 c.to,.bo c.idx,.i64 c.pg],T,false⟩
  fp:∃F,W.rep s H n F∧¬F k∧∀i,F i→F0 i∨n0≤i
  fr:∀i,i<n0→i≠k→¬F0 i→H i=H0 i
variable {P:Program} {σ:Type} {W:WC P σ} {T:TypeId} {H0:Heap} {n0:Nat} {F0:Nat→Prop} {k:Nat} {c:XC} {s:σ} {H:Heap} {n:Nat}
theorem cells_okX (c:XC) (n:Nat):∀v∈c.r.cells,v.ok n=true:=by
  intro v hv
  simp only[Rg.cells,List.mem_cons,List.not_mem_nil,or_false] at hv
  rcases hv with rfl | rfl | rfl | rfl | rfl | rfl | rfl | rfl | rfl | rfl | rfl | rfl | rfl | rfl | rfl | rfl | rfl | rfl | rfl | rfl | rfl | rfl | rfl | rfl | rfl | rfl | rfl | rfl | rfl <;> rfl
theorem AX.kn (A:AX W T H0 n0 F0 k c s H n):k<n:=(A.wf _ _ A.blk).1
theorem AX.vok (A:AX W T H0 n0 F0 k c s H n):W.v.ok n=true:=let⟨_,h,_⟩:=A.fp; W.vok h
theorem coreX_ok (A:AX W T H0 n0 F0 k c s H n) (c':XC):∀v∈c'.r.cells++[W.v,.u16 c'.to,.bo c'.idx,.i64 c'.pg],v.ok n=true:=by
  intro v hv
  rcases List.mem_append.1 hv with hv | hv
  · exact cells_okX _ _ v hv
  · simp only[List.mem_cons,List.not_mem_nil,or_false] at hv
    rcases hv with rfl | rfl | rfl | rfl
    · exact A.vok
    · rfl
    · rfl
    · rfl
theorem AX.put (A:AX W T H0 n0 F0 k c s H n) (c':XC):AX W T H0 n0 F0 k c' s (H.upd k (some ⟨c'.r.cells++[W.v,.u16 c'.to,.bo c'.idx,.i64 c'.pg],T,false⟩)) n:=
  let⟨F,h1,h2,h3⟩:=A.fp
  ⟨Heap.wf_set A.wf A.kn (coreX_ok A c'),A.le,Heap.upd_same _ _ _,⟨F,W.stable h1 (fun i hi=>Heap.upd_ne _ _ (fun e=>h2 (e▸hi))) (Nat.le_refl _),h2,h3⟩,fun i hi hk hF=>by rw[Heap.upd_ne _ _ hk]; exact A.fr i hi hk hF⟩
theorem AX.mono (A:AX W T H0 n0 F0 k c s H n) {H':Heap} {n':Nat} (hw:H'.wf n') (hn:n≤n') (he:∀i,i<n→H' i=H i):AX W T H0 n0 F0 k c s H' n':=
  let⟨F,h1,h2,h3⟩:=A.fp
  ⟨hw,Nat.le_trans A.le hn,by rw[he _ A.kn]; exact A.blk,⟨F,W.stable h1 (fun i hi=>he i (W.low h1 hi)) hn,h2,h3⟩,fun i hi hk hF=>by rw[he i (Nat.lt_of_lt_of_le hi A.le)]; exact A.fr i hi hk hF⟩
theorem AX.out (A:AX W T H0 n0 F0 k c s H n) {F:Nat→Prop} (h1:W.rep s H n F) (h2:¬F k) (h3:∀i,F i→F0 i∨n0≤i) {s':σ} {H':Heap} {n':Nat} {F':Nat→Prop} (hw:H'.wf n') (hn:n≤n') (hr:W.rep s' H' n' F') (hF:∀i,F' i→F i∨n≤i) (he:∀i,i<n→¬F i→H' i=H i):AX W T H0 n0 F0 k c s' H' n':=
  ⟨hw,Nat.le_trans A.le hn,by rw[he _ A.kn h2]; exact A.blk,⟨F',hr,fun hk=>by rcases hF _ hk with h | h; exact h2 h; exact Nat.lt_irrefl _ (Nat.lt_of_lt_of_le A.kn h),fun i hi=>by
      rcases hF i hi with h | h
      · exact h3 i h
      · exact .inr (Nat.le_trans A.le h)⟩,
    fun i hi hk hF0=>by
      rw[he i (Nat.lt_of_lt_of_le hi A.le) (fun h=>by rcases h3 i h with h | h; exact hF0 h; exact Nat.lt_irrefl _ (Nat.lt_of_lt_of_le hi h))]; exact A.fr i hi hk hF0⟩
theorem AX.read (A:AX W T H0 n0 F0 k c s H n) {a:BitVec 16} {K:AV→Heap→Nat→Prop} (hl:1≤W.left s) (h:∀H' n',AX W T H0 n0 F0 k c (W.O.rd s a).2 H' n'→K (.u8 (W.O.rd s a).1) H' n'):ACalls P W.kr [W.v,.u16 a] H n K:=
  let⟨_,h1,h2,h3⟩:=A.fp
  W.read hl h1 fun H' n' _ hw hn hr hF he=>h H' n' (A.out h1 h2 h3 hw hn hr hF he)
theorem AX.write (A:AX W T H0 n0 F0 k c s H n) {a:BitVec 16} {x:BitVec 8} {K:AV→Heap→Nat→Prop} (hl:1≤W.left s) (h:∀H' n',AX W T H0 n0 F0 k c (W.O.wr s a x) H' n'→K (.tu []) H' n'):ACalls P W.kw [W.v,.u16 a,.u8 x] H n K:=
  let⟨_,h1,h2,h3⟩:=A.fp
  W.write hl h1 fun H' n' _ hw hn hr hF he=>h H' n' (A.out h1 h2 h3 hw hn hr hF he)
theorem AX.inp (A:AX W T H0 n0 F0 k c s H n) {p:BitVec 16} {u:Int} {K:AV→Heap→Nat→Prop} (hu:0≤u∧u≤100) (hl:1≤W.left s) (h:∀H' n',AX W T H0 n0 F0 k c (W.O.inp s p u).2 H' n'→K (.u8 (W.O.inp s p u).1) H' n'):ACalls P W.ki [W.v,.u16 p,.i64 u] H n K:=
  let⟨_,h1,h2,h3⟩:=A.fp
  W.inp hu hl h1 fun H' n' _ hw hn hr hF he=>h H' n' (A.out h1 h2 h3 hw hn hr hF he)
theorem AX.outp (A:AX W T H0 n0 F0 k c s H n) {p:BitVec 16} {x:BitVec 8} {u:Int} {K:AV→Heap→Nat→Prop} (hu:0≤u∧u≤100) (hl:1≤W.left s) (h:∀H' n',AX W T H0 n0 F0 k c (W.O.out s p x u) H' n'→K (.tu []) H' n'):ACalls P W.ko [W.v,.u16 p,.u8 x,.i64 u] H n K:=
  let⟨_,h1,h2,h3⟩:=A.fp
  W.out hu hl h1 fun H' n' _ hw hn hr hF he=>h H' n' (A.out h1 h2 h3 hw hn hr hF he)
theorem AX.put29 (A:AX W T H0 n0 F0 k c s H n) {a f b c_ d e h l a2 f2 b2 c2 d2 e2 h2 l2:BitVec 8} {ix iy sp pc wz:BitVec 16} {i r im pre:BitVec 8} {x1 x2 x3 x4:Bool} {to:BitVec 16} {idx:Bool} {pg:Nat}:
    AX W T H0 n0 F0 k ⟨⟨a,f,b,c_,d,e,h,l,a2,f2,b2,c2,d2,e2,h2,l2,ix,iy,sp,pc,wz,i,r,im,pre,x1,x2,x3,x4⟩,to,idx,pg⟩ s
      (H.upd k (some ⟨[.u8 a,.u8 f,.u8 b,.u8 c_,.u8 d,.u8 e,.u8 h,.u8 l,.u8 a2,.u8 f2,.u8 b2,.u8 c2,.u8 d2,.u8 e2,.u8 h2,.u8 l2,.u16 ix,.u16 iy,.u16 sp,.u16 pc,.u16 wz,.u8 i,.u8 r,.u8 im,.u8 pre,.bo x1,.bo x2,.bo x3,.bo x4,W.v,.u16 to,.bo idx,.i64 pg],T,false⟩)) n:=
  A.put ⟨⟨a,f,b,c_,d,e,h,l,a2,f2,b2,c2,d2,e2,h2,l2,ix,iy,sp,pc,wz,i,r,im,pre,x1,x2,x3,x4⟩,to,idx,pg⟩
theorem AX.blk29 (A:AX W T H0 n0 F0 k c s H n):H k=some ⟨[.u8 c.r.a,.u8 c.r.f,.u8 c.r.b,.u8 c.r.c,.u8 c.r.d,.u8 c.r.e,.u8 c.r.h,.u8 c.r.l,.u8 c.r.a2,.u8 c.r.f2,.u8 c.r.b2,.u8 c.r.c2,.u8 c.r.d2,.u8 c.r.e2,.u8 c.r.h2,.u8 c.r.l2,.u16 c.r.ix,.u16 c.r.iy,.u16 c.r.sp,.u16 c.r.pc,.u16 c.r.wz,.u8 c.r.i,.u8 c.r.r,.u8 c.r.im,.u8 c.r.pre,.bo c.r.iff1,.bo c.r.iff2,.bo c.r.hlt,.bo c.r.dly,W.v,.u16 c.to,.bo c.idx,.i64 c.pg],T,false⟩:=A.blk
theorem AX.rd (A:AX W T H0 n0 F0 k c s H n) {a:BitVec 16} {K:AV→Heap→Nat→Prop} (hl:1≤W.left s) (h:∀v s' H' n',(rdE a).run W.O s=(v,s')→W.left s≤W.left s'+1→AX W T H0 n0 F0 k c s' H' n'→K (.u8 v) H' n'):ACalls P W.kr [W.v,.u16 a] H n K:=
  A.read hl fun H' n' A'=>h _ _ H' n' rfl (W.lrd _ _) A'
theorem AX.wr (A:AX W T H0 n0 F0 k c s H n) {a:BitVec 16} {x:BitVec 8} {K:AV→Heap→Nat→Prop} (hl:1≤W.left s) (h:∀s' H' n',(wrE a x).run W.O s=((),s')→W.left s≤W.left s'+1→AX W T H0 n0 F0 k c s' H' n'→K (.tu []) H' n'):ACalls P W.kw [W.v,.u16 a,.u8 x] H n K:=
  A.write hl fun H' n' A'=>h _ H' n' rfl (W.lwr _ _ _) A'
theorem AX.ip (A:AX W T H0 n0 F0 k c s H n) {p:BitVec 16} {u:Int} {K:AV→Heap→Nat→Prop} (hu:0≤u∧u≤100) (hl:1≤W.left s) (h:∀v s' H' n',(inE p u).run W.O s=(v,s')→W.left s≤W.left s'+1→AX W T H0 n0 F0 k c s' H' n'→K (.u8 v) H' n'):ACalls P W.ki [W.v,.u16 p,.i64 u] H n K:=
  A.inp hu hl fun H' n' A'=>h _ _ H' n' rfl (W.lin _ _ _) A'
theorem AX.op (A:AX W T H0 n0 F0 k c s H n) {p:BitVec 16} {x:BitVec 8} {u:Int} {K:AV→Heap→Nat→Prop} (hu:0≤u∧u≤100) (hl:1≤W.left s) (h:∀s' H' n',(outE p x u).run W.O s=((),s')→W.left s≤W.left s'+1→AX W T H0 n0 F0 k c s' H' n'→K (.tu []) H' n'):ACalls P W.ko [W.v,.u16 p,.u8 x,.i64 u] H n K:=
  A.outp hu hl fun H' n' A'=>h _ H' n' rfl (W.lout _ _ _ _) A'
theorem AX.boxed (A:AX W T H0 n0 F0 k c s H n) (bl:Blk) (hok:∀v∈bl.cells,v.ok (n+1)=true):
    ∃ F1,AX W T (H.upd n (some bl)) (n+1) F1 k c s (H.upd n (some bl)) (n+1)∧
      ∀ {c':XC} {s':σ} {H':Heap} {n':Nat},AX W T (H.upd n (some bl)) (n+1) F1 k c' s' H' n'→AX W T H0 n0 F0 k c' s' H' n'∧H' n=some bl∧n≠k∧n<n':=by
  obtain⟨F,h1,h2,h3⟩:=A.fp
  have hne:n≠k:=fun e=>Nat.lt_irrefl _ (e▸A.kn)
  have hFn:¬F n:=fun h=>Nat.lt_irrefl _ (W.low h1 h)
  refine⟨F,⟨Heap.wf_upd A.wf hok,Nat.le_refl _,by rw[Heap.upd_ne _ _ (Ne.symm hne)]; exact A.blk,⟨F,W.stable h1 (fun i hi=>Heap.upd_ne _ _ (fun e=>hFn (e▸hi))) (Nat.le_succ _),h2,fun i hi=>.inl hi⟩,fun _ _ _ _=>rfl⟩,?_⟩
  intro c' s' H' n' B
  obtain⟨F',g1,g2,g3⟩:=B.fp
  refine⟨⟨B.wf,Nat.le_trans A.le (Nat.le_trans (Nat.le_succ _) B.le),B.blk,⟨F',g1,g2,fun i hi=>?_⟩,fun i hi hk hF=>?_⟩,?_,hne,Nat.lt_of_lt_of_le (Nat.lt_succ_self _) B.le⟩
  · rcases g3 i hi with h | h
    · exact h3 i h
    · exact .inr (Nat.le_trans A.le (Nat.le_trans (Nat.le_succ _) h))
  · have hin:i<n:=Nat.lt_of_lt_of_le hi A.le
    rw[B.fr i (Nat.lt_succ_of_lt hin) hk (fun h=>by rcases h3 i h with h | h; exact hF h; omega),Heap.upd_ne _ _ (Nat.ne_of_lt hin)]
    exact A.fr i hi hk hF
  · rw[B.fr n (Nat.lt_succ_self _) hne hFn,Heap.upd_same]
end Go.Proofs.Joy
namespace Go.Proofs.Joy
open Go.Ab
set_option maxHeartbeats 1000000
def getO (r:Rg) (m:Str):BitVec 8:=
  if m==[65#8] then r.a else if m==[70#8] then r.f else if m==[66#8] then r.b else if m==[67#8] then r.c else if m==[68#8] then r.d else if m==[69#8] then r.e else if m==[72#8] then hiS (joinS r.h r.l) else if m==[76#8] then loS (joinS r.h r.l)
  else if m==[73#8,88#8,72#8] then hiS r.ix else if m==[73#8,88#8,76#8] then loS r.ix else if m==[73#8,89#8,72#8] then hiS r.iy else if m==[73#8,89#8,76#8] then loS r.iy else if m==[73#8] then r.i else if m==[82#8] then r.r else loS (getB r m)
def setO (r:Rg) (m:Str) (v:BitVec 8):Rg:=
  if m==[65#8] then { r with a:=v} else if m==[70#8] then { r with f:=v} else if m==[66#8] then { r with b:=v} else if m==[67#8] then { r with c:=v} else if m==[68#8] then { r with d:=v} else if m==[69#8] then { r with e:=v} else if m==[72#8] then { r with h:=hiS (joinS v (loS (joinS r.h r.l))),l:=loS (joinS v (loS (joinS r.h r.l)))} else if m==[76#8] then { r with h:=hiS (joinS (hiS (joinS r.h r.l)) v),l:=loS (joinS (hiS (joinS r.h r.l)) v)}
  else if m==[73#8,88#8,72#8] then { r with ix:=joinS v (loS r.ix)} else if m==[73#8,88#8,76#8] then { r with ix:=joinS (hiS r.ix) v} else if m==[73#8,89#8,72#8] then { r with iy:=joinS v (loS r.iy)} else if m==[73#8,89#8,76#8] then { r with iy:=joinS (hiS r.iy) v} else if m==[73#8] then { r with i:=v} else if m==[82#8] then { r with r:=v} else setB r m (v.setWidth 16)
def metN (f:BitVec 8) (m:Str):Bool:=
  if m==[78#8,90#8] then metR f 0 else if m==[90#8] then metR f 1 else if m==[78#8,67#8] then metR f 2 else if m==[67#8] then metR f 3 else if m==[80#8,79#8] then metR f 4 else if m==[80#8,69#8] then metR f 5 else if m==[80#8] then metR f 6 else metR f 7
def memB (m:Str):Bool:=m==[40#8,72#8,76#8,41#8]||m==[40#8,73#8,88#8,43#8,100#8,41#8]||m==[40#8,73#8,89#8,43#8,100#8,41#8]
def XC.reg (c:XC) (r:Rg):XC:={ c with r:=r}
def XC.setF (c:XC) (f:BitVec 8):XC:={ c with r:={ c.r with f:=f}}
def XC.setAF (c:XC) (x:BitVec 8×BitVec 8):XC:={ c with r:={ c.r with a:=x.1,f:=x.2}}
def XC.wz (c:XC) (a:BitVec 16):XC:={ c with r:={ c.r with wz:=a}}
def XC.go (c:XC) (a:BitVec 16):XC:={ c with r:={ c.r with pc:=a,wz:=a}}
def xNext:XM (BitVec 8):=fun c=>(rdE c.r.pc).bind fun v=>.ret (v,{ c with r:={ c.r with pc:=c.r.pc+1#16}})
def xWord:XM (BitVec 16):=fun c=>(xNext c).bind fun lo=>(xNext lo.2).bind fun hi=>.ret (joinS hi.1 lo.1,hi.2)
def xLoad (a:BitVec 16):XM (BitVec 16):=fun c=>(rdE a).bind fun lo=>(rdE (a+1#16)).bind fun hi=>.ret (joinS hi lo,c)
def xStore (a v:BitVec 16):XM Unit:=fun c=>(wrE a (loS v)).bind fun _=>(wrE (a+1#16) (hiS v)).bind fun _=>.ret ((),c)
def xPush (v:BitVec 16):XM Unit:=fun c=>(wrE (c.r.sp-1#16) (hiS v)).bind fun _=>(wrE (c.r.sp-1#16-1#16) (loS v)).bind fun _=>.ret ((),{ c with r:={ c.r with sp:=c.r.sp-1#16-1#16}})
def xPop:XM (BitVec 16):=fun c=>(xLoad c.r.sp c).bind fun v=>.ret (v.1,{ c with r:={ c.r with sp:=c.r.sp+2#16}})
def xByte (m:Str):XM (BitVec 8):=fun c=>
  if m==[110#8] then xNext c else if memB m then(rdE c.to).bind fun v=>.ret (v,c)
  else if m==[40#8,66#8,67#8,41#8]||m==[40#8,68#8,69#8,41#8] then(rdE (getB c.r ((m.drop 1).take 2))).bind fun v=>.ret (v,c) else .ret (getO c.r m,c)
def xPut (m:Str) (v:BitVec 8):XM Unit:=fun c=>
  if memB m then(wrE c.to v).bind fun _=>.ret ((),c)
  else if m==[40#8,66#8,67#8,41#8]||m==[40#8,68#8,69#8,41#8] then(wrE (getB c.r ((m.drop 1).take 2)) v).bind fun _=>.ret ((),c) else .ret ((),{ c with r:=setO c.r m v})
def xBy (c:XC) (m:Str) (plain there far:Nat):Nat:=if memB m=false then plain else if c.idx then far else there
def xPoint (m:Str):XM Unit:=fun c=>(xNext c).bind fun d=>
  .ret ((),{ d.2 with to:=moveS (getB c.r m) d.1,idx:=true,r:={ d.2.r with wz:=moveS (getB c.r m) d.1}})
def xLdThere (a b:Str):XM Nat:=fun c=>(xWord c).bind fun t=>
  let c1:=t.2.wz (t.1+1#16)
  let n:=if c.pg=2 then 20 else 16
  let thing:=if a==[40#8,110#8,110#8,41#8] then b else a
  if thing==[65#8] then
    if a==[65#8] then(rdE t.1).bind fun v=>.ret (13,{ c1 with r:={ c1.r with a:=v}})
    else(wrE t.1 c1.r.a).bind fun _=>.ret (13,c1.wz (joinS c1.r.a (loS (t.1+1#16))))
  else if a==[40#8,110#8,110#8,41#8] then(xStore t.1 (getB c1.r b) c1).bind fun x=>.ret (n,x.2)
  else(xLoad t.1 c1).bind fun v=>.ret (n,v.2.reg (setB v.2.r a v.1))
def xLd (a b:Str):XM Nat:=fun c=>
  if a==[40#8,110#8,110#8,41#8]||b==[40#8,110#8,110#8,41#8] then xLdThere a b c
  else if a==[83#8,80#8]&&b !=[110#8,110#8] then .ret (6,c.reg (setB c.r [83#8,80#8] (getB c.r b)))
  else if b==[110#8,110#8] then(xWord c).bind fun w=>.ret (10,w.2.reg (setB w.2.r a w.1))
  else if a==[73#8]||a==[82#8]||b==[73#8]||b==[82#8] then
    let c1:=c.reg (setO c.r a (getO c.r b))
    if a==[65#8] then .ret (9,c1.setF (if c1.r.iff2 then(c1.r.f&&&1#8|||shapeS c1.r.a)|||4#8 else c1.r.f&&&1#8|||shapeS c1.r.a)) else .ret (9,c1)
  else if a==[40#8,66#8,67#8,41#8]||a==[40#8,68#8,69#8,41#8] then(xPut a c.r.a c).bind fun x=>.ret (7,x.2.wz (joinS x.2.r.a (loS (getB x.2.r ((a.drop 1).take 2)+1#16))))
  else if b==[40#8,66#8,67#8,41#8]||b==[40#8,68#8,69#8,41#8] then
    let c1:=c.wz (getB c.r ((b.drop 1).take 2)+1#16)
    (xByte b c1).bind fun v=>.ret (7,{ v.2 with r:={ v.2.r with a:=v.1}})
  else(xByte b c).bind fun v=>(xPut a v.1 v.2).bind fun x=>
    .ret (if b==[110#8] then xBy x.2 a 7 10 15 else if memB b then xBy x.2 b 4 7 15 else xBy x.2 a 4 7 15,x.2)
def xCount (m a:Str):XM Nat:=fun c=>
  if pairB a then .ret (6,c.reg (setB c.r a (if m==[73#8,78#8,67#8] then getB c.r a+1#16 else getB c.r a+1#16-2#16)))
  else(xByte a c).bind fun v=>
    let t:=if m==[68#8,69#8,67#8] then decS v.1 v.2.r.f else incS v.1 v.2.r.f
    (xPut a t.1 v.2).bind fun x=>.ret (xBy x.2 a 4 11 19,x.2.setF t.2)
def sumI (m:Str):Nat:=if m==[65#8,68#8,68#8] then 0 else if m==[65#8,68#8,67#8] then 1 else if m==[83#8,85#8,66#8] then 2 else if m==[83#8,66#8,67#8] then 3 else if m==[65#8,78#8,68#8] then 4 else if m==[88#8,79#8,82#8] then 5 else if m==[79#8,82#8] then 6 else 7
def xSum (m a b:Str):XM Nat:=fun c=>
  if pairB a then
    let v:=getB c.r a
    let w:=getB c.r b
    let c1:=c.wz (v+1#16)
    let t:=if m==[65#8,68#8,68#8] then add16 v w c1.r.f else if m==[65#8,68#8,67#8] then adc16 v w c1.r.f else sbc16 v w c1.r.f
    .ret (if m==[65#8,68#8,68#8] then 11 else 15,(c1.reg (setB c1.r a t.1)).setF t.2)
  else
    let thing:=if b !=[] then b else a
    (xByte thing c).bind fun v=>.ret (if thing==[110#8] then 7 else xBy v.2 thing 4 7 15,v.2.setAF (doS (sumI m) c.r.a v.1 c.r.f))
def rstN:Str→Nat→Nat
  | [],n=>n
  | c :: r,n=>rstN r (10*n+(c.toNat-48))
def xJump (m a b:Str):XM Nat:=fun c=>
  let met:=if b !=[] then metN c.r.f a else true
  let where_:=if b !=[] then b else a
  if m==[74#8,80#8] then
    if where_ !=[110#8,110#8] then .ret (4,{ c with r:={ c.r with pc:=getB c.r ((where_.drop 1).take 2)}})
    else(xWord c).bind fun w=>let c1:=w.2.wz w.1; .ret (10,if met then { c1 with r:={ c1.r with pc:=w.1}} else c1)
  else if m==[67#8,65#8,76#8,76#8] then(xWord c).bind fun w=>
    let c1:=w.2.wz w.1
    if met=false then .ret (10,c1) else(xPush c1.r.pc c1).bind fun x=>.ret (17,{ x.2 with r:={ x.2.r with pc:=x.2.r.wz}})
  else if m==[74#8,82#8]||m==[68#8,74#8,78#8,90#8] then
    let c1:XC:=if m==[68#8,74#8,78#8,90#8] then { c with r:={ c.r with b:=c.r.b-1#8}} else c
    let met2:=if m==[68#8,74#8,78#8,90#8] then c1.r.b !=0#8 else met
    let s:=if m==[68#8,74#8,78#8,90#8] then 8 else 7
    (xNext c1).bind fun e=>if met2=false then .ret (s,e.2) else .ret (s+5,e.2.go (moveS e.2.r.pc e.1))
  else if m==[82#8,83#8,84#8] then(xPush c.r.pc c).bind fun x=>.ret (11,x.2.go (BitVec.ofNat 16 (rstN a 0)))
  else if m==[82#8,69#8,84#8,78#8]||m==[82#8,69#8,84#8,73#8] then(xPop c).bind fun v=>
    let c1:=v.2.go v.1
    .ret (14,{ c1 with r:={ c1.r with iff1:=c1.r.iff2}})
  else if a==[] then(xPop c).bind fun v=>.ret (10,v.2.go v.1)
  else if metN c.r.f a=false then .ret (5,c) else(xPop c).bind fun v=>.ret (11,v.2.go v.1)
def xSwap (m a b:Str):XM Nat:=fun c=>
  if m==[69#8,88#8,88#8] then .ret (4,c.reg (swapR c.r true)) else if a==[65#8,70#8] then .ret (4,c.reg (swapR c.r false))
  else if a==[68#8,69#8] then .ret (4,{ c with r:={ c.r with d:=c.r.h,e:=c.r.l,h:=c.r.d,l:=c.r.e}})
  else(xLoad c.r.sp c).bind fun v=>(xStore v.2.r.sp (getB v.2.r b) v.2).bind fun x=>.ret (19,(x.2.reg (setB x.2.r b v.1)).wz v.1)
def xPort (m a b:Str):XM Nat:=fun c=>
  if a==[40#8,110#8,41#8]||b==[40#8,110#8,41#8] then(xNext c).bind fun n=>
    let port:=joinS n.2.r.a n.1
    if m==[79#8,85#8,84#8] then(outE port n.2.r.a 8).bind fun _=>.ret (11,n.2.wz (joinS n.2.r.a (n.1+1#8)))
    else
      let c1:=n.2.wz (port+1#16)
      (inE port 8).bind fun v=>.ret (11,{ c1 with r:={ c1.r with a:=v}})
  else
    let bc:=joinS c.r.b c.r.c
    let c1:=c.wz (bc+1#16)
    if m==[79#8,85#8,84#8] then(outE bc (if b !=[48#8] then getO c1.r b else 0#8) 9).bind fun _=>.ret (12,c1)
    else(inE bc 9).bind fun v=>
      let c2:=c1.setF (toldS v c1.r.f)
      .ret (12,if b !=[] then c2.reg (setO c2.r a v) else c2)
def rotI (m:Str):Nat:=if m==[82#8,76#8,67#8] then 0 else if m==[82#8,82#8,67#8] then 1 else if m==[82#8,76#8] then 2 else if m==[82#8,82#8] then 3 else if m==[83#8,76#8,65#8] then 4 else if m==[83#8,82#8,65#8] then 5 else if m==[83#8,76#8,76#8] then 6 else 7
def xPuts:List Str→BitVec 8→XM Unit
  | [],_=>fun c=>.ret ((),c)
  | x :: l,v=>fun c=>(xPut x v c).bind fun y=>xPuts l v y.2
def xBits (ts:List Str) (m:Str):XM Nat:=fun c=>
  let k:=m==[66#8,73#8,84#8]||m==[82#8,69#8,83#8]||m==[83#8,69#8,84#8]
  let n:=if k then(((ts.getD 0 []).getD 0 0#8).toNat-48) else 0
  let things:=if k then ts.drop 1 else ts
  (xByte (things.getD 0 []) c).bind fun v=>
    let from_:=if memB (things.getD 0 []) then hiS v.2.r.wz else v.1
    if m==[66#8,73#8,84#8] then .ret (xBy v.2 (things.getD 0 []) 8 12 16,v.2.setF (bitS8 n v.1 v.2.r.f from_))
    else
      let w:=if k then putS8 n v.1 (m==[83#8,69#8,84#8]) else(rotS (rotI m) v.1 v.2.r.f).1
      let c1:=if k then v.2 else v.2.setF (rotS (rotI m) v.1 v.2.r.f).2
      (xPuts things w c1).bind fun x=>.ret (xBy x.2 (things.getD 0 []) 8 15 19,x.2)
def xAlone (m:Str):XM Nat:=fun c=>
  .ret (4,if m==[82#8,76#8,67#8,65#8] then c.setAF (quickS 0 c.r.a c.r.f) else if m==[82#8,82#8,67#8,65#8] then c.setAF (quickS 1 c.r.a c.r.f) else if m==[82#8,76#8,65#8] then c.setAF (quickS 2 c.r.a c.r.f) else if m==[82#8,82#8,65#8] then c.setAF (quickS 3 c.r.a c.r.f)
    else if m==[68#8,65#8,65#8] then c.setAF (daaS c.r.a c.r.f) else if m==[67#8,80#8,76#8] then c.setAF (flipS 0 c.r.a c.r.f) else if m==[83#8,67#8,70#8] then c.setAF (flipS 1 c.r.a c.r.f) else if m==[67#8,67#8,70#8] then c.setAF (flipS 2 c.r.a c.r.f)
    else if m==[72#8,65#8,76#8,84#8] then { c with r:={ c.r with hlt:=true}} else if m==[68#8,73#8]||m==[69#8,73#8] then { c with r:={ c.r with iff1:=m==[69#8,73#8],iff2:=m==[69#8,73#8],dly:=m==[69#8,73#8]}} else c)
def downB (m:Str):Bool:=m==[76#8,68#8,68#8]||m==[76#8,68#8,68#8,82#8]||m==[67#8,80#8,68#8]||m==[67#8,80#8,68#8,82#8]||m==[73#8,78#8,68#8]||m==[73#8,78#8,68#8,82#8]||m==[79#8,85#8,84#8,68#8]||m==[79#8,84#8,68#8,82#8]
def xManyP (k:Nat) (by_:BitVec 16) (again:Bool):XM Nat:=fun c=>
  let hl:=joinS c.r.h c.r.l
  let bc:=joinS c.r.b c.r.c
  let fin:Bool→Bool→XC→Eff (Nat×XC):=fun ls on c=>
    let c1:XC:={ c with r:={ c.r with h:=hiS (hl+by_),l:=loS (hl+by_)}}
    if again=false∨on=false then .ret (16,c1)
    else
      let c2:XC:={ c1 with r:={ c1.r with pc:=c1.r.pc-2#16}}
      .ret (21,if ls then c2.wz (c2.r.pc+1#16) else c2)
  if k=0 then(rdE hl).bind fun v=>(wrE (joinS c.r.d c.r.e) v).bind fun _=>
    let c1:XC:={ c with r:={ c.r with d:=hiS (joinS c.r.d c.r.e+by_),e:=loS (joinS c.r.d c.r.e+by_),b:=hiS (bc-1#16),c:=loS (bc-1#16)}}
    fin true (bc !=1#16) (c1.setF (repLoad c1.r.a v c1.r.f (bc-1#16)))
  else if k=1 then
    let c1:XC:={ c with r:={ c.r with wz:=c.r.wz+by_,b:=hiS (bc-1#16),c:=loS (bc-1#16)}}
    (rdE hl).bind fun v=>fin true (repSeek c1.r.a v c1.r.f (bc-1#16)).2 (c1.setF (repSeek c1.r.a v c1.r.f (bc-1#16)).1)
  else if k=2 then
    let c1:=c.wz (bc+by_)
    (inE bc 13).bind fun v=>(wrE hl v).bind fun _=>
      let c2:XC:={ c1 with r:={ c1.r with b:=c1.r.b-1#8}}
      fin false (c2.r.b !=0#8) (c2.setF (repPort v (c2.r.c+loS by_) c2.r.b))
  else(rdE hl).bind fun v=>
    let c2:XC:={ c with r:={ c.r with b:=c.r.b-1#8}}
    (outE (joinS c2.r.b c2.r.c) v 13).bind fun _=>
      let c3:=c2.wz (joinS c2.r.b c2.r.c+by_)
      fin false (c3.r.b !=0#8) (c3.setF (repPort v (loS (hl+by_)) c3.r.b))
def manyI (m:Str):Nat:=if m.take 2==[76#8,68#8] then 0 else if m.take 2==[67#8,80#8] then 1 else if m.getD 0 0#8==73#8 then 2 else 3
def xMany (m:Str):XM Nat:=xManyP (manyI m) (if downB m then ~~~0#16 else 1#16) (m.getD (m.length-1) 0#8==82#8)
def xExt (m a:Str):XM Nat:=fun c=>
  if m==[78#8,69#8,71#8] then .ret (8,c.setAF (subS 0#8 c.r.a false)) else if m==[73#8,77#8] then .ret (8,{ c with r:={ c.r with im:=a.getD 0 0#8-48#8}})
  else if m==[82#8,82#8,68#8]||m==[82#8,76#8,68#8] then
    let t:=joinS c.r.h c.r.l
    let c1:XC:={ (c.wz (t+1#16)) with to:=t}
    (rdE t).bind fun v=>
      let d:=digitsS (m==[82#8,76#8,68#8]) c1.r.a v c1.r.f
      (wrE t d.2.1).bind fun _=>.ret (18,c1.setAF (d.1,d.2.2))
  else if m==[78#8,79#8,80#8] then .ret (8,c) else xMany m c
def wordsN (s:Str):List Str:=splitS s 32#8
def partsN (s:Str):List Str:=splitS ((wordsN s).getD 1 []) 44#8
def xRun (s:Str) (pg:Nat):XM Nat:=fun c0=>
  let c:XC:={ c0 with pg:=pg}
  let m:=(wordsN s).getD 0 []
  let a:=if 1<(wordsN s).length then(partsN s).getD 0 [] else []
  let b:=if 1<(wordsN s).length then(partsN s).getD 1 [] else []
  if m==[76#8,68#8] then xLd a b c else if m==[73#8,78#8,67#8]||m==[68#8,69#8,67#8] then xCount m a c
  else if m==[65#8,68#8,68#8]||m==[65#8,68#8,67#8]||m==[83#8,85#8,66#8]||m==[83#8,66#8,67#8]||m==[65#8,78#8,68#8]||m==[88#8,79#8,82#8]||m==[79#8,82#8]||m==[67#8,80#8] then xSum m a b c
  else if m==[74#8,80#8]||m==[74#8,82#8]||m==[68#8,74#8,78#8,90#8]||m==[67#8,65#8,76#8,76#8]||m==[82#8,69#8,84#8]||m==[82#8,83#8,84#8]||m==[82#8,69#8,84#8,78#8]||m==[82#8,69#8,84#8,73#8] then xJump m a b c
  else if m==[80#8,85#8,83#8,72#8] then(xPush (getB c.r a) c).bind fun x=>.ret (11,x.2)
  else if m==[80#8,79#8,80#8] then(xPop c).bind fun v=>.ret (10,v.2.reg (setB v.2.r a v.1))
  else if m==[69#8,88#8]||m==[69#8,88#8,88#8] then xSwap m a b c else if m==[73#8,78#8]||m==[79#8,85#8,84#8] then xPort m a b c
  else if m==[82#8,76#8,67#8]||m==[82#8,82#8,67#8]||m==[82#8,76#8]||m==[82#8,82#8]||m==[83#8,76#8,65#8]||m==[83#8,82#8,65#8]||m==[83#8,76#8,76#8]||m==[83#8,82#8,76#8]||m==[66#8,73#8,84#8]||m==[82#8,69#8,83#8]||m==[83#8,69#8,84#8] then xBits (partsN s) m c
  else if pg=2 then xExt m a c else xAlone m c
def xDo (pg:Nat) (op:BitVec 8):XM Nat:=fun c=>
  let s:=patS pg op
  (if(pg=3∨pg=4)∧hasS s [43#8,100#8]=true then xPoint (if pg=3 then [73#8,88#8] else [73#8,89#8]) c else .ret ((),c)).bind fun x=>
    xRun s pg (if hasS s [40#8,72#8,76#8,41#8] then { x.2 with to:=joinS x.2.r.h x.2.r.l} else x.2)
end Go.Proofs.Joy
namespace Go.Proofs.Joy
open Go.Ab
set_option maxHeartbeats 1000000
end Go.Proofs.Joy
namespace Go.Proofs.Joy
open Go.Ab Go.Proofs
set_option maxHeartbeats 2000000
set_option maxRecDepth 20000
section
end
section
end
end Go.Proofs.Joy
namespace Go.Proofs.Joy
open Go.Ab Go.Proofs
set_option maxHeartbeats 4000000
set_option maxRecDepth 20000
section
end
end Go.Proofs.Joy
namespace Go.Proofs.Joy
open Go.Ab Go.Proofs
set_option maxHeartbeats 4000000
set_option maxRecDepth 20000
section
end
end Go.Proofs.Joy
namespace Go.Proofs.Joy
open Go.Ab Go.Proofs
set_option maxHeartbeats 4000000
set_option maxRecDepth 20000
section
end
end Go.Proofs.Joy
namespace Go.Proofs.Joy
open Go.Ab Go.Proofs
set_option maxHeartbeats 4000000
set_option maxRecDepth 20000
section
end
end Go.Proofs.Joy
namespace Go.Proofs.Joy
open Go.Ab Go.Proofs
set_option maxHeartbeats 4000000
set_option maxRecDepth 20000
section
end
end Go.Proofs.Joy
namespace Go.Proofs.Joy
open Go.Ab
set_option maxHeartbeats 1000000
end Go.Proofs.Joy
namespace Go.Proofs.Joy
open Go.Ab Go.Proofs
set_option maxHeartbeats 4000000
set_option maxRecDepth 20000
section
end
end Go.Proofs.Joy
namespace Go.Proofs.Joy
open Go.Ab Go.Proofs
set_option maxHeartbeats 4000000
set_option maxRecDepth 20000
section
end
end Go.Proofs.Joy
namespace Go.Proofs.Joy
open Go.Ab
set_option maxHeartbeats 1000000
variable {P:Program} {σ:Type} {W:WC P σ} {T:TypeId} {H0:Heap} {n0:Nat} {F0:Nat→Prop} {k:Nat} {c:XC} {s:σ} {H:Heap} {n:Nat}
theorem AX.start {F:Nat→Prop} (hr:W.rep s H n F) (hk:n≤k) {H':Heap} {n':Nat} (hw:H'.wf n') (hn:k<n') (he:∀i,i<n→H' i=H i) (c:XC) (hb:H' k=some ⟨c.r.cells++[W.v,.u16 c.to,.bo c.idx,.i64 c.pg],T,false⟩):AX W T H' n' F k c s H' n':=
  ⟨hw,Nat.le_refl _,hb,⟨F,W.stable hr (fun i hi=>he i (W.low hr hi)) (by omega),fun h=>by have:=W.low hr h; omega,fun i hi=>.inl hi⟩,fun _ _ _ _=>rfl⟩
theorem AX.done {F:Nat→Prop} (hr:W.rep s H n F) (hk:n≤k) {H1:Heap} {n1:Nat} (hn:n≤n1) (he:∀i,i<n→H1 i=H i) {s':σ} {H':Heap} {n':Nat} (A:AX W T H1 n1 F k c s' H' n'):
    n≤n'∧∃F',W.rep s' H' n' F'∧(∀i,F' i→F i∨n≤i)∧∀i,i<n→¬F i→H' i=H i:=by
  obtain⟨F',g1,g2,g3⟩:=A.fp
  have hle:=A.le
  refine⟨by omega,F',g1,fun i hi=>?_,fun i hi hF=>?_⟩
  · rcases g3 i hi with h | h
    · exact .inl h
    · exact .inr (by omega)
  · rw[A.fr i (by omega) (by omega) hF,he i hi]
end Go.Proofs.Joy
namespace Go.Proofs.Joy
open Go.Ab Go.Proofs
set_option maxHeartbeats 4000000
set_option maxRecDepth 20000
section
end
end Go.Proofs.Joy
namespace Go.Proofs.Joy
open Go.Ab Go.Proofs
set_option maxHeartbeats 4000000
set_option maxRecDepth 20000
section
end
end Go.Proofs.Joy
namespace Go.Proofs.Joy
open Go.Ab Go.Proofs
set_option maxHeartbeats 4000000
set_option maxRecDepth 20000
end Go.Proofs.Joy
namespace Go.Proofs.Joy
open Go.Ab
set_option maxHeartbeats 4000000
set_option maxRecDepth 20000
def outX (e:Eff (Nat×XC)):Eff (Rg×Nat):=e.bind fun x=>.ret (x.2.r,x.1)
def outC (e:Eff (Nat×Core)):Eff (Rg×Nat):=e.bind fun x=>.ret (x.2.r,x.1)
theorem b16 {Q:Nat→Prop} (h0:Q 0) (h1:Q 1) (h2:Q 2) (h3:Q 3) (h4:Q 4) (h5:Q 5) (h6:Q 6) (h7:Q 7) (h8:Q 8) (h9:Q 9) (h10:Q 10) (h11:Q 11) (h12:Q 12) (h13:Q 13) (h14:Q 14) (h15:Q 15):∀k,k<16→Q k
  | 0,_=>h0
  | 1,_=>h1
  | 2,_=>h2
  | 3,_=>h3
  | 4,_=>h4
  | 5,_=>h5
  | 6,_=>h6
  | 7,_=>h7
  | 8,_=>h8
  | 9,_=>h9
  | 10,_=>h10
  | 11,_=>h11
  | 12,_=>h12
  | 13,_=>h13
  | 14,_=>h14
  | 15,_=>h15
  | k+16,h=>absurd h (by omega)
theorem b256 {P:BitVec 8→Prop} (h:∀i,i<16→∀j,j<16→P (BitVec.ofNat 8 (16*i+j))) (x:BitVec 8):P x:=by
  have hx:=x.isLt
  have:=h (x.toNat / 16) (by omega) (x.toNat%16) (by omega)
  rw[show 16*(x.toNat / 16)+x.toNat%16=x.toNat by omega,BitVec.ofNat_toNat,BitVec.setWidth_eq] at this
  exact this
section
variable (r:Rg) (t:BitVec 16) (i:Bool) (p:Nat) (pr:BitVec 8) (b:Bool)
theorem j_jr (s:Nat):outX ((xNext ⟨r,t,i,p⟩).bind fun e=>if b=false then .ret (s,e.2) else .ret (s+5,e.2.go (moveS e.2.r.pc e.1)))=outC ((nextM ⟨r,pr⟩).bind fun e=>if b=false then .ret (s,e.2) else .ret (s+5,e.2.to (moveS e.2.r.pc e.1))):=by cases b <;> rfl
theorem j_jp:outX ((xWord ⟨r,t,i,p⟩).bind fun w=>.ret (10,if b then { (w.2.wz w.1) with r:={ (w.2.wz w.1).r with pc:=w.1}} else w.2.wz w.1))=outC ((jumpToM b ⟨r,pr⟩).bind fun x=>.ret (10,x.2)):=by cases b <;> rfl
theorem j_ret:outX (if b=false then .ret (5,⟨r,t,i,p⟩) else(xPop ⟨r,t,i,p⟩).bind fun v=>.ret (11,v.2.go v.1))=outC (if b=false then .ret (5,⟨r,pr⟩) else(popM ⟨r,pr⟩).bind fun v=>.ret (11,v.2.to v.1)):=by cases b <;> rfl
theorem j_call:outX ((xWord ⟨r,t,i,p⟩).bind fun w=>if b=false then .ret (10,w.2.wz w.1) else(xPush (w.2.wz w.1).r.pc (w.2.wz w.1)).bind fun x=>.ret (17,{ x.2 with r:={ x.2.r with pc:=x.2.r.wz}}))=outC (callM b ⟨r,pr⟩):=by cases b <;> rfl
end
def manyP (k:Nat) (by_:BitVec 16) (y:Nat):CM Nat:=fun c=>
  let hl:=joinS c.r.h c.r.l
  let bc:=joinS c.r.b c.r.c
  let fin:Bool→Bool→Core→Eff (Nat×Core):=fun ls on c=>
    let c1:Core:={ c with r:={ c.r with h:=hiS (hl+by_),l:=loS (hl+by_)}}
    if y<6∨on=false then .ret (16,c1)
    else
      let c2:Core:={ c1 with r:={ c1.r with pc:=c1.r.pc-2#16}}
      .ret (21,if ls then c2.wz (c2.r.pc+1#16) else c2)
  if k=0 then(rdE hl).bind fun v=>(wrE (joinS c.r.d c.r.e) v).bind fun _=>
    let c1:Core:={ c with r:={ c.r with d:=hiS (joinS c.r.d c.r.e+by_),e:=loS (joinS c.r.d c.r.e+by_),b:=hiS (bc-1#16),c:=loS (bc-1#16)}}
    fin true (bc !=1#16) (c1.setF (repLoad c1.r.a v c1.r.f (bc-1#16)))
  else if k=1 then
    let c1:Core:={ c with r:={ c.r with wz:=c.r.wz+by_,b:=hiS (bc-1#16),c:=loS (bc-1#16)}}
    (rdE hl).bind fun v=>fin true (repSeek c1.r.a v c1.r.f (bc-1#16)).2 (c1.setF (repSeek c1.r.a v c1.r.f (bc-1#16)).1)
  else if k=2 then
    let c1:=c.wz (bc+by_)
    (inE bc 13).bind fun v=>(wrE hl v).bind fun _=>
      let c2:Core:={ c1 with r:={ c1.r with b:=c1.r.b-1#8}}
      fin false (c2.r.b !=0#8) (c2.setF (repPort v (c2.r.c+loS by_) c2.r.b))
  else(rdE hl).bind fun v=>
    let c2:Core:={ c with r:={ c.r with b:=c.r.b-1#8}}
    (outE (joinS c2.r.b c2.r.c) v 13).bind fun _=>
      let c3:=c2.wz (joinS c2.r.b c2.r.c+by_)
      fin false (c3.r.b !=0#8) (c3.setF (repPort v (loS (hl+by_)) c3.r.b))
theorem fin_eq (r:Rg) (t:BitVec 16) (i:Bool) (p y:Nat) (again ls on:Bool) (hy:again=decide (6≤y)):
    (if again=false∨on=false then(.ret (16,⟨r,t,i,p⟩):Eff (Nat×XC)) else .ret (21,if ls then XC.wz ⟨{ r with pc:=r.pc-2#16},t,i,p⟩ (r.pc-2#16+1#16) else⟨{ r with pc:=r.pc-2#16},t,i,p⟩)).bind (fun x=>.ret (x.2.r,x.1))=
    (if y<6∨on=false then(.ret (16,⟨r,0#8⟩):Eff (Nat×Core)) else .ret (21,if ls then Core.wz ⟨{ r with pc:=r.pc-2#16},0#8⟩ (r.pc-2#16+1#16) else⟨{ r with pc:=r.pc-2#16},0#8⟩)).bind (fun x=>.ret (x.2.r,x.1)):=by
  have h:(again=false∨on=false)↔(y<6∨on=false):=by rw[hy,decide_eq_false_iff_not,Nat.not_le]
  by_cases e:again=false∨on=false
  · rw[if_pos e,if_pos (h.1 e)]; rfl
  · rw[if_neg e,if_neg (mt h.2 e)]; cases ls <;> rfl
theorem many_eq (k:Nat) (hk:k<4) (by_:BitVec 16) (again:Bool) (y:Nat) (hy:again=decide (6≤y)) (r:Rg) (t:BitVec 16) (i:Bool) (p:Nat):outX (xManyP k by_ again ⟨r,t,i,p⟩)=outC (manyP k by_ y ⟨r,0#8⟩):=by
  rcases (by omega:k=0∨k=1∨k=2∨k=3) with rfl | rfl | rfl | rfl
  · show Eff.rd _ (fun v=>Eff.wr _ _ _)=Eff.rd _ (fun v=>Eff.wr _ _ _)
    congr 1; funext v; congr 1
    exact fin_eq _ t i p y again true _ hy
  · show Eff.rd _ (fun v=>_)=Eff.rd _ (fun v=>_)
    congr 1; funext v
    exact fin_eq _ t i p y again true _ hy
  · show Eff.inp _ _ (fun v=>Eff.wr _ _ _)=Eff.inp _ _ (fun v=>Eff.wr _ _ _)
    congr 1; funext v; congr 1
    exact fin_eq _ t i p y again false _ hy
  · show Eff.rd _ (fun v=>Eff.out _ _ _ _)=Eff.rd _ (fun v=>Eff.out _ _ _ _)
    congr 1; funext v; congr 1
    exact fin_eq _ t i p y again false _ hy
end Go.Proofs.Joy
namespace Go.Proofs.Joy
open Go.Ab
set_option maxHeartbeats 4000000
set_option maxRecDepth 20000
end Go.Proofs.Joy
namespace Go.Proofs.Joy
open Go.Ab
set_option maxHeartbeats 4000000
set_option maxRecDepth 20000
def turnB (op:BitVec 8):CM Nat:=fun c=>
  if zO op=6 then(pointedM c).bind fun a=>(rdE a.1).bind fun v=>
    let t:=bitsS op v (hiS a.2.r.wz) a.2.r.f
    let c1:=a.2.setF t.2.2
    if t.2.1=false then .ret (12,c1) else(wrE a.1 t.1).bind fun _=>.ret (15,c1)
  else
    let v:=c.one (zO op)
    let t:=bitsS op v v c.r.f
    let c1:=c.setF t.2.2
    .ret (8,if t.2.1=false then c1 else c1.setOne (zO op) t.1)
def q1P (op:BitVec 8):Prop:=∀r:Rg,outX (xDo 1 op ⟨r,0#16,false,0⟩)=outC (turnB op ⟨r,0#8⟩)
theorem q1_0:∀j,j<16→q1P (BitVec.ofNat 8 (16*0+j)):=b16 (fun _=>rfl) (fun _=>rfl) (fun _=>rfl) (fun _=>rfl) (fun _=>rfl) (fun _=>rfl) (fun _=>rfl) (fun _=>rfl) (fun _=>rfl) (fun _=>rfl) (fun _=>rfl) (fun _=>rfl) (fun _=>rfl) (fun _=>rfl) (fun _=>rfl) (fun _=>rfl)
theorem q1_1:∀j,j<16→q1P (BitVec.ofNat 8 (16*1+j)):=b16 (fun _=>rfl) (fun _=>rfl) (fun _=>rfl) (fun _=>rfl) (fun _=>rfl) (fun _=>rfl) (fun _=>rfl) (fun _=>rfl) (fun _=>rfl) (fun _=>rfl) (fun _=>rfl) (fun _=>rfl) (fun _=>rfl) (fun _=>rfl) (fun _=>rfl) (fun _=>rfl)
theorem q1_2:∀j,j<16→q1P (BitVec.ofNat 8 (16*2+j)):=b16 (fun _=>rfl) (fun _=>rfl) (fun _=>rfl) (fun _=>rfl) (fun _=>rfl) (fun _=>rfl) (fun _=>rfl) (fun _=>rfl) (fun _=>rfl) (fun _=>rfl) (fun _=>rfl) (fun _=>rfl) (fun _=>rfl) (fun _=>rfl) (fun _=>rfl) (fun _=>rfl)
theorem q1_3:∀j,j<16→q1P (BitVec.ofNat 8 (16*3+j)):=b16 (fun _=>rfl) (fun _=>rfl) (fun _=>rfl) (fun _=>rfl) (fun _=>rfl) (fun _=>rfl) (fun _=>rfl) (fun _=>rfl) (fun _=>rfl) (fun _=>rfl) (fun _=>rfl) (fun _=>rfl) (fun _=>rfl) (fun _=>rfl) (fun _=>rfl) (fun _=>rfl)
theorem q1_4:∀j,j<16→q1P (BitVec.ofNat 8 (16*4+j)):=b16 (fun _=>rfl) (fun _=>rfl) (fun _=>rfl) (fun _=>rfl) (fun _=>rfl) (fun _=>rfl) (fun _=>rfl) (fun _=>rfl) (fun _=>rfl) (fun _=>rfl) (fun _=>rfl) (fun _=>rfl) (fun _=>rfl) (fun _=>rfl) (fun _=>rfl) (fun _=>rfl)
theorem q1_5:∀j,j<16→q1P (BitVec.ofNat 8 (16*5+j)):=b16 (fun _=>rfl) (fun _=>rfl) (fun _=>rfl) (fun _=>rfl) (fun _=>rfl) (fun _=>rfl) (fun _=>rfl) (fun _=>rfl) (fun _=>rfl) (fun _=>rfl) (fun _=>rfl) (fun _=>rfl) (fun _=>rfl) (fun _=>rfl) (fun _=>rfl) (fun _=>rfl)
theorem q1_6:∀j,j<16→q1P (BitVec.ofNat 8 (16*6+j)):=b16 (fun _=>rfl) (fun _=>rfl) (fun _=>rfl) (fun _=>rfl) (fun _=>rfl) (fun _=>rfl) (fun _=>rfl) (fun _=>rfl) (fun _=>rfl) (fun _=>rfl) (fun _=>rfl) (fun _=>rfl) (fun _=>rfl) (fun _=>rfl) (fun _=>rfl) (fun _=>rfl)
theorem q1_7:∀j,j<16→q1P (BitVec.ofNat 8 (16*7+j)):=b16 (fun _=>rfl) (fun _=>rfl) (fun _=>rfl) (fun _=>rfl) (fun _=>rfl) (fun _=>rfl) (fun _=>rfl) (fun _=>rfl) (fun _=>rfl) (fun _=>rfl) (fun _=>rfl) (fun _=>rfl) (fun _=>rfl) (fun _=>rfl) (fun _=>rfl) (fun _=>rfl)
theorem q1_8:∀j,j<16→q1P (BitVec.ofNat 8 (16*8+j)):=b16 (fun _=>rfl) (fun _=>rfl) (fun _=>rfl) (fun _=>rfl) (fun _=>rfl) (fun _=>rfl) (fun _=>rfl) (fun _=>rfl) (fun _=>rfl) (fun _=>rfl) (fun _=>rfl) (fun _=>rfl) (fun _=>rfl) (fun _=>rfl) (fun _=>rfl) (fun _=>rfl)
theorem q1_9:∀j,j<16→q1P (BitVec.ofNat 8 (16*9+j)):=b16 (fun _=>rfl) (fun _=>rfl) (fun _=>rfl) (fun _=>rfl) (fun _=>rfl) (fun _=>rfl) (fun _=>rfl) (fun _=>rfl) (fun _=>rfl) (fun _=>rfl) (fun _=>rfl) (fun _=>rfl) (fun _=>rfl) (fun _=>rfl) (fun _=>rfl) (fun _=>rfl)
theorem q1_A:∀j,j<16→q1P (BitVec.ofNat 8 (16*10+j)):=b16 (fun _=>rfl) (fun _=>rfl) (fun _=>rfl) (fun _=>rfl) (fun _=>rfl) (fun _=>rfl) (fun _=>rfl) (fun _=>rfl) (fun _=>rfl) (fun _=>rfl) (fun _=>rfl) (fun _=>rfl) (fun _=>rfl) (fun _=>rfl) (fun _=>rfl) (fun _=>rfl)
theorem q1_B:∀j,j<16→q1P (BitVec.ofNat 8 (16*11+j)):=b16 (fun _=>rfl) (fun _=>rfl) (fun _=>rfl) (fun _=>rfl) (fun _=>rfl) (fun _=>rfl) (fun _=>rfl) (fun _=>rfl) (fun _=>rfl) (fun _=>rfl) (fun _=>rfl) (fun _=>rfl) (fun _=>rfl) (fun _=>rfl) (fun _=>rfl) (fun _=>rfl)
theorem q1_C:∀j,j<16→q1P (BitVec.ofNat 8 (16*12+j)):=b16 (fun _=>rfl) (fun _=>rfl) (fun _=>rfl) (fun _=>rfl) (fun _=>rfl) (fun _=>rfl) (fun _=>rfl) (fun _=>rfl) (fun _=>rfl) (fun _=>rfl) (fun _=>rfl) (fun _=>rfl) (fun _=>rfl) (fun _=>rfl) (fun _=>rfl) (fun _=>rfl)
theorem q1_D:∀j,j<16→q1P (BitVec.ofNat 8 (16*13+j)):=b16 (fun _=>rfl) (fun _=>rfl) (fun _=>rfl) (fun _=>rfl) (fun _=>rfl) (fun _=>rfl) (fun _=>rfl) (fun _=>rfl) (fun _=>rfl) (fun _=>rfl) (fun _=>rfl) (fun _=>rfl) (fun _=>rfl) (fun _=>rfl) (fun _=>rfl) (fun _=>rfl)
theorem q1_E:∀j,j<16→q1P (BitVec.ofNat 8 (16*14+j)):=b16 (fun _=>rfl) (fun _=>rfl) (fun _=>rfl) (fun _=>rfl) (fun _=>rfl) (fun _=>rfl) (fun _=>rfl) (fun _=>rfl) (fun _=>rfl) (fun _=>rfl) (fun _=>rfl) (fun _=>rfl) (fun _=>rfl) (fun _=>rfl) (fun _=>rfl) (fun _=>rfl)
theorem q1_F:∀j,j<16→q1P (BitVec.ofNat 8 (16*15+j)):=b16 (fun _=>rfl) (fun _=>rfl) (fun _=>rfl) (fun _=>rfl) (fun _=>rfl) (fun _=>rfl) (fun _=>rfl) (fun _=>rfl) (fun _=>rfl) (fun _=>rfl) (fun _=>rfl) (fun _=>rfl) (fun _=>rfl) (fun _=>rfl) (fun _=>rfl) (fun _=>rfl)
theorem q1 (op:BitVec 8):q1P op:=b256 (b16 q1_0 q1_1 q1_2 q1_3 q1_4 q1_5 q1_6 q1_7 q1_8 q1_9 q1_A q1_B q1_C q1_D q1_E q1_F) op
end Go.Proofs.Joy
namespace Go.Proofs.Joy
open Go.Ab
set_option maxHeartbeats 4000000
set_option maxRecDepth 20000
def q2P (op:BitVec 8):Prop:=∀r:Rg,outX (xDo 2 op ⟨r,0#16,false,0⟩)=outC (extendedM op ⟨r,0#8⟩)
theorem q2_0:∀j,j<16→q2P (BitVec.ofNat 8 (16*0+j)):=b16 (fun _=>rfl) (fun _=>rfl) (fun _=>rfl) (fun _=>rfl) (fun _=>rfl) (fun _=>rfl) (fun _=>rfl) (fun _=>rfl) (fun _=>rfl) (fun _=>rfl) (fun _=>rfl) (fun _=>rfl) (fun _=>rfl) (fun _=>rfl) (fun _=>rfl) (fun _=>rfl)
theorem q2_1:∀j,j<16→q2P (BitVec.ofNat 8 (16*1+j)):=b16 (fun _=>rfl) (fun _=>rfl) (fun _=>rfl) (fun _=>rfl) (fun _=>rfl) (fun _=>rfl) (fun _=>rfl) (fun _=>rfl) (fun _=>rfl) (fun _=>rfl) (fun _=>rfl) (fun _=>rfl) (fun _=>rfl) (fun _=>rfl) (fun _=>rfl) (fun _=>rfl)
theorem q2_2:∀j,j<16→q2P (BitVec.ofNat 8 (16*2+j)):=b16 (fun _=>rfl) (fun _=>rfl) (fun _=>rfl) (fun _=>rfl) (fun _=>rfl) (fun _=>rfl) (fun _=>rfl) (fun _=>rfl) (fun _=>rfl) (fun _=>rfl) (fun _=>rfl) (fun _=>rfl) (fun _=>rfl) (fun _=>rfl) (fun _=>rfl) (fun _=>rfl)
theorem q2_3:∀j,j<16→q2P (BitVec.ofNat 8 (16*3+j)):=b16 (fun _=>rfl) (fun _=>rfl) (fun _=>rfl) (fun _=>rfl) (fun _=>rfl) (fun _=>rfl) (fun _=>rfl) (fun _=>rfl) (fun _=>rfl) (fun _=>rfl) (fun _=>rfl) (fun _=>rfl) (fun _=>rfl) (fun _=>rfl) (fun _=>rfl) (fun _=>rfl)
theorem q2_4:∀j,j<16→q2P (BitVec.ofNat 8 (16*4+j)):=b16 (fun _=>rfl) (fun _=>rfl) (fun _=>rfl) (fun _=>rfl) (fun _=>rfl) (fun _=>rfl) (fun _=>rfl) (fun _=>rfl) (fun _=>rfl) (fun _=>rfl) (fun _=>rfl) (fun _=>rfl) (fun _=>rfl) (fun _=>rfl) (fun _=>rfl) (fun _=>rfl)
theorem q2_5:∀j,j<16→q2P (BitVec.ofNat 8 (16*5+j)):=b16 (fun _=>rfl) (fun _=>rfl) (fun _=>rfl) (fun _=>rfl) (fun _=>rfl) (fun _=>rfl) (fun _=>rfl) (fun _=>rfl) (fun _=>rfl) (fun _=>rfl) (fun _=>rfl) (fun _=>rfl) (fun _=>rfl) (fun _=>rfl) (fun _=>rfl) (fun _=>rfl)
theorem q2_6:∀j,j<16→q2P (BitVec.ofNat 8 (16*6+j)):=b16 (fun _=>rfl) (fun _=>rfl) (fun _=>rfl) (fun _=>rfl) (fun _=>rfl) (fun _=>rfl) (fun _=>rfl) (fun _=>rfl) (fun _=>rfl) (fun _=>rfl) (fun _=>rfl) (fun _=>rfl) (fun _=>rfl) (fun _=>rfl) (fun _=>rfl) (fun _=>rfl)
theorem q2_7:∀j,j<16→q2P (BitVec.ofNat 8 (16*7+j)):=b16 (fun _=>rfl) (fun _=>rfl) (fun _=>rfl) (fun _=>rfl) (fun _=>rfl) (fun _=>rfl) (fun _=>rfl) (fun _=>rfl) (fun _=>rfl) (fun _=>rfl) (fun _=>rfl) (fun _=>rfl) (fun _=>rfl) (fun _=>rfl) (fun _=>rfl) (fun _=>rfl)
theorem q2_8:∀j,j<16→q2P (BitVec.ofNat 8 (16*8+j)):=b16 (fun _=>rfl) (fun _=>rfl) (fun _=>rfl) (fun _=>rfl) (fun _=>rfl) (fun _=>rfl) (fun _=>rfl) (fun _=>rfl) (fun _=>rfl) (fun _=>rfl) (fun _=>rfl) (fun _=>rfl) (fun _=>rfl) (fun _=>rfl) (fun _=>rfl) (fun _=>rfl)
theorem q2_9:∀j,j<16→q2P (BitVec.ofNat 8 (16*9+j)):=b16 (fun _=>rfl) (fun _=>rfl) (fun _=>rfl) (fun _=>rfl) (fun _=>rfl) (fun _=>rfl) (fun _=>rfl) (fun _=>rfl) (fun _=>rfl) (fun _=>rfl) (fun _=>rfl) (fun _=>rfl) (fun _=>rfl) (fun _=>rfl) (fun _=>rfl) (fun _=>rfl)
theorem q2_A:∀j,j<16→q2P (BitVec.ofNat 8 (16*10+j)):=b16 (fun r=>many_eq 0 (by decide) (1#16) false 4 rfl r _ _ _) (fun r=>many_eq 1 (by decide) (1#16) false 4 rfl r _ _ _) (fun r=>many_eq 2 (by decide) (1#16) false 4 rfl r _ _ _) (fun r=>many_eq 3 (by decide) (1#16) false 4 rfl r _ _ _) (fun _=>rfl) (fun _=>rfl) (fun _=>rfl) (fun _=>rfl) (fun r=>(show outX (xDo 2 (BitVec.ofNat 8 (16*10+8)) ⟨r,0#16,false,0⟩)=outX (xManyP 0 (~~~0#16) false ⟨r,0#16,false,2⟩) by kernel_rfl).trans ((many_eq 0 (by decide) (~~~0#16) false 5 rfl r _ _ _).trans (show outC (manyP 0 (~~~0#16) 5 ⟨r,0#8⟩)=outC (extendedM (BitVec.ofNat 8 (16*10+8)) ⟨r,0#8⟩) by kernel_rfl))) (fun r=>(show outX (xDo 2 (BitVec.ofNat 8 (16*10+9)) ⟨r,0#16,false,0⟩)=outX (xManyP 1 (~~~0#16) false ⟨r,0#16,false,2⟩) by kernel_rfl).trans ((many_eq 1 (by decide) (~~~0#16) false 5 rfl r _ _ _).trans (show outC (manyP 1 (~~~0#16) 5 ⟨r,0#8⟩)=outC (extendedM (BitVec.ofNat 8 (16*10+9)) ⟨r,0#8⟩) by kernel_rfl))) (fun r=>(show outX (xDo 2 (BitVec.ofNat 8 (16*10+10)) ⟨r,0#16,false,0⟩)=outX (xManyP 2 (~~~0#16) false ⟨r,0#16,false,2⟩) by kernel_rfl).trans ((many_eq 2 (by decide) (~~~0#16) false 5 rfl r _ _ _).trans (show outC (manyP 2 (~~~0#16) 5 ⟨r,0#8⟩)=outC (extendedM (BitVec.ofNat 8 (16*10+10)) ⟨r,0#8⟩) by kernel_rfl))) (fun r=>(show outX (xDo 2 (BitVec.ofNat 8 (16*10+11)) ⟨r,0#16,false,0⟩)=outX (xManyP 3 (~~~0#16) false ⟨r,0#16,false,2⟩) by kernel_rfl).trans ((many_eq 3 (by decide) (~~~0#16) false 5 rfl r _ _ _).trans (show outC (manyP 3 (~~~0#16) 5 ⟨r,0#8⟩)=outC (extendedM (BitVec.ofNat 8 (16*10+11)) ⟨r,0#8⟩) by kernel_rfl))) (fun _=>rfl) (fun _=>rfl) (fun _=>rfl) (fun _=>rfl)
theorem q2_B:∀j,j<16→q2P (BitVec.ofNat 8 (16*11+j)):=b16 (fun r=>many_eq 0 (by decide) (1#16) true 6 rfl r _ _ _) (fun r=>many_eq 1 (by decide) (1#16) true 6 rfl r _ _ _) (fun r=>many_eq 2 (by decide) (1#16) true 6 rfl r _ _ _) (fun r=>many_eq 3 (by decide) (1#16) true 6 rfl r _ _ _) (fun _=>rfl) (fun _=>rfl) (fun _=>rfl) (fun _=>rfl) (fun r=>(show outX (xDo 2 (BitVec.ofNat 8 (16*11+8)) ⟨r,0#16,false,0⟩)=outX (xManyP 0 (~~~0#16) true ⟨r,0#16,false,2⟩) by kernel_rfl).trans ((many_eq 0 (by decide) (~~~0#16) true 7 rfl r _ _ _).trans (show outC (manyP 0 (~~~0#16) 7 ⟨r,0#8⟩)=outC (extendedM (BitVec.ofNat 8 (16*11+8)) ⟨r,0#8⟩) by kernel_rfl))) (fun r=>(show outX (xDo 2 (BitVec.ofNat 8 (16*11+9)) ⟨r,0#16,false,0⟩)=outX (xManyP 1 (~~~0#16) true ⟨r,0#16,false,2⟩) by kernel_rfl).trans ((many_eq 1 (by decide) (~~~0#16) true 7 rfl r _ _ _).trans (show outC (manyP 1 (~~~0#16) 7 ⟨r,0#8⟩)=outC (extendedM (BitVec.ofNat 8 (16*11+9)) ⟨r,0#8⟩) by kernel_rfl))) (fun r=>(show outX (xDo 2 (BitVec.ofNat 8 (16*11+10)) ⟨r,0#16,false,0⟩)=outX (xManyP 2 (~~~0#16) true ⟨r,0#16,false,2⟩) by kernel_rfl).trans ((many_eq 2 (by decide) (~~~0#16) true 7 rfl r _ _ _).trans (show outC (manyP 2 (~~~0#16) 7 ⟨r,0#8⟩)=outC (extendedM (BitVec.ofNat 8 (16*11+10)) ⟨r,0#8⟩) by kernel_rfl))) (fun r=>(show outX (xDo 2 (BitVec.ofNat 8 (16*11+11)) ⟨r,0#16,false,0⟩)=outX (xManyP 3 (~~~0#16) true ⟨r,0#16,false,2⟩) by kernel_rfl).trans ((many_eq 3 (by decide) (~~~0#16) true 7 rfl r _ _ _).trans (show outC (manyP 3 (~~~0#16) 7 ⟨r,0#8⟩)=outC (extendedM (BitVec.ofNat 8 (16*11+11)) ⟨r,0#8⟩) by kernel_rfl))) (fun _=>rfl) (fun _=>rfl) (fun _=>rfl) (fun _=>rfl)
theorem q2_C:∀j,j<16→q2P (BitVec.ofNat 8 (16*12+j)):=b16 (fun _=>rfl) (fun _=>rfl) (fun _=>rfl) (fun _=>rfl) (fun _=>rfl) (fun _=>rfl) (fun _=>rfl) (fun _=>rfl) (fun _=>rfl) (fun _=>rfl) (fun _=>rfl) (fun _=>rfl) (fun _=>rfl) (fun _=>rfl) (fun _=>rfl) (fun _=>rfl)
theorem q2_D:∀j,j<16→q2P (BitVec.ofNat 8 (16*13+j)):=b16 (fun _=>rfl) (fun _=>rfl) (fun _=>rfl) (fun _=>rfl) (fun _=>rfl) (fun _=>rfl) (fun _=>rfl) (fun _=>rfl) (fun _=>rfl) (fun _=>rfl) (fun _=>rfl) (fun _=>rfl) (fun _=>rfl) (fun _=>rfl) (fun _=>rfl) (fun _=>rfl)
theorem q2_E:∀j,j<16→q2P (BitVec.ofNat 8 (16*14+j)):=b16 (fun _=>rfl) (fun _=>rfl) (fun _=>rfl) (fun _=>rfl) (fun _=>rfl) (fun _=>rfl) (fun _=>rfl) (fun _=>rfl) (fun _=>rfl) (fun _=>rfl) (fun _=>rfl) (fun _=>rfl) (fun _=>rfl) (fun _=>rfl) (fun _=>rfl) (fun _=>rfl)
theorem q2_F:∀j,j<16→q2P (BitVec.ofNat 8 (16*15+j)):=b16 (fun _=>rfl) (fun _=>rfl) (fun _=>rfl) (fun _=>rfl) (fun _=>rfl) (fun _=>rfl) (fun _=>rfl) (fun _=>rfl) (fun _=>rfl) (fun _=>rfl) (fun _=>rfl) (fun _=>rfl) (fun _=>rfl) (fun _=>rfl) (fun _=>rfl) (fun _=>rfl)
theorem q2 (op:BitVec 8):q2P op:=b256 (b16 q2_0 q2_1 q2_2 q2_3 q2_4 q2_5 q2_6 q2_7 q2_8 q2_9 q2_A q2_B q2_C q2_D q2_E q2_F) op
end Go.Proofs.Joy
namespace Go.Proofs.Joy
open Go.Ab
set_option maxHeartbeats 4000000
set_option maxRecDepth 20000
def q3P (op:BitVec 8):Prop:=op≠0xDD#8∧op≠0xFD#8∧op≠0xED#8∧op≠0xCB#8→∀r:Rg,outX (xDo 3 op ⟨r,0#16,false,0⟩)=outC (plainM op ⟨r,0xDD#8⟩)
theorem q3_0:∀j,j<16→q3P (BitVec.ofNat 8 (16*0+j)):=b16 (fun _ _=>rfl) (fun _ _=>rfl) (fun _ _=>rfl) (fun _ _=>rfl) (fun _ _=>rfl) (fun _ _=>rfl) (fun _ _=>rfl) (fun _ _=>rfl) (fun _ _=>rfl) (fun _ _=>rfl) (fun _ _=>rfl) (fun _ _=>rfl) (fun _ _=>rfl) (fun _ _=>rfl) (fun _ _=>rfl) (fun _ _=>rfl)
theorem q3_1:∀j,j<16→q3P (BitVec.ofNat 8 (16*1+j)):=b16 (fun _ r=>j_jr { r with b:=r.b-1#8} _ _ _ 0xDD#8 (r.b-1#8 !=0#8) 8) (fun _ _=>rfl) (fun _ _=>rfl) (fun _ _=>rfl) (fun _ _=>rfl) (fun _ _=>rfl) (fun _ _=>rfl) (fun _ _=>rfl) (fun _ _=>rfl) (fun _ _=>rfl) (fun _ _=>rfl) (fun _ _=>rfl) (fun _ _=>rfl) (fun _ _=>rfl) (fun _ _=>rfl) (fun _ _=>rfl)
theorem q3_2:∀j,j<16→q3P (BitVec.ofNat 8 (16*2+j)):=b16 (fun _ r=>j_jr r _ _ _ 0xDD#8 (metR r.f 0) 7) (fun _ _=>rfl) (fun _ _=>rfl) (fun _ _=>rfl) (fun _ _=>rfl) (fun _ _=>rfl) (fun _ _=>rfl) (fun _ _=>rfl) (fun _ r=>j_jr r _ _ _ 0xDD#8 (metR r.f 1) 7) (fun _ _=>rfl) (fun _ _=>rfl) (fun _ _=>rfl) (fun _ _=>rfl) (fun _ _=>rfl) (fun _ _=>rfl) (fun _ _=>rfl)
theorem q3_3:∀j,j<16→q3P (BitVec.ofNat 8 (16*3+j)):=b16 (fun _ r=>j_jr r _ _ _ 0xDD#8 (metR r.f 2) 7) (fun _ _=>rfl) (fun _ _=>rfl) (fun _ _=>rfl) (fun _ _=>rfl) (fun _ _=>rfl) (fun _ _=>rfl) (fun _ _=>rfl) (fun _ r=>j_jr r _ _ _ 0xDD#8 (metR r.f 3) 7) (fun _ _=>rfl) (fun _ _=>rfl) (fun _ _=>rfl) (fun _ _=>rfl) (fun _ _=>rfl) (fun _ _=>rfl) (fun _ _=>rfl)
theorem q3_4:∀j,j<16→q3P (BitVec.ofNat 8 (16*4+j)):=b16 (fun _ _=>rfl) (fun _ _=>rfl) (fun _ _=>rfl) (fun _ _=>rfl) (fun _ _=>rfl) (fun _ _=>rfl) (fun _ _=>rfl) (fun _ _=>rfl) (fun _ _=>rfl) (fun _ _=>rfl) (fun _ _=>rfl) (fun _ _=>rfl) (fun _ _=>rfl) (fun _ _=>rfl) (fun _ _=>rfl) (fun _ _=>rfl)
theorem q3_5:∀j,j<16→q3P (BitVec.ofNat 8 (16*5+j)):=b16 (fun _ _=>rfl) (fun _ _=>rfl) (fun _ _=>rfl) (fun _ _=>rfl) (fun _ _=>rfl) (fun _ _=>rfl) (fun _ _=>rfl) (fun _ _=>rfl) (fun _ _=>rfl) (fun _ _=>rfl) (fun _ _=>rfl) (fun _ _=>rfl) (fun _ _=>rfl) (fun _ _=>rfl) (fun _ _=>rfl) (fun _ _=>rfl)
theorem q3_6:∀j,j<16→q3P (BitVec.ofNat 8 (16*6+j)):=b16 (fun _ _=>rfl) (fun _ _=>rfl) (fun _ _=>rfl) (fun _ _=>rfl) (fun _ _=>rfl) (fun _ _=>rfl) (fun _ _=>rfl) (fun _ _=>rfl) (fun _ _=>rfl) (fun _ _=>rfl) (fun _ _=>rfl) (fun _ _=>rfl) (fun _ _=>rfl) (fun _ _=>rfl) (fun _ _=>rfl) (fun _ _=>rfl)
theorem q3_7:∀j,j<16→q3P (BitVec.ofNat 8 (16*7+j)):=b16 (fun _ _=>rfl) (fun _ _=>rfl) (fun _ _=>rfl) (fun _ _=>rfl) (fun _ _=>rfl) (fun _ _=>rfl) (fun _ _=>rfl) (fun _ _=>rfl) (fun _ _=>rfl) (fun _ _=>rfl) (fun _ _=>rfl) (fun _ _=>rfl) (fun _ _=>rfl) (fun _ _=>rfl) (fun _ _=>rfl) (fun _ _=>rfl)
theorem q3_8:∀j,j<16→q3P (BitVec.ofNat 8 (16*8+j)):=b16 (fun _ _=>rfl) (fun _ _=>rfl) (fun _ _=>rfl) (fun _ _=>rfl) (fun _ _=>rfl) (fun _ _=>rfl) (fun _ _=>rfl) (fun _ _=>rfl) (fun _ _=>rfl) (fun _ _=>rfl) (fun _ _=>rfl) (fun _ _=>rfl) (fun _ _=>rfl) (fun _ _=>rfl) (fun _ _=>rfl) (fun _ _=>rfl)
theorem q3_9:∀j,j<16→q3P (BitVec.ofNat 8 (16*9+j)):=b16 (fun _ _=>rfl) (fun _ _=>rfl) (fun _ _=>rfl) (fun _ _=>rfl) (fun _ _=>rfl) (fun _ _=>rfl) (fun _ _=>rfl) (fun _ _=>rfl) (fun _ _=>rfl) (fun _ _=>rfl) (fun _ _=>rfl) (fun _ _=>rfl) (fun _ _=>rfl) (fun _ _=>rfl) (fun _ _=>rfl) (fun _ _=>rfl)
theorem q3_A:∀j,j<16→q3P (BitVec.ofNat 8 (16*10+j)):=b16 (fun _ _=>rfl) (fun _ _=>rfl) (fun _ _=>rfl) (fun _ _=>rfl) (fun _ _=>rfl) (fun _ _=>rfl) (fun _ _=>rfl) (fun _ _=>rfl) (fun _ _=>rfl) (fun _ _=>rfl) (fun _ _=>rfl) (fun _ _=>rfl) (fun _ _=>rfl) (fun _ _=>rfl) (fun _ _=>rfl) (fun _ _=>rfl)
theorem q3_B:∀j,j<16→q3P (BitVec.ofNat 8 (16*11+j)):=b16 (fun _ _=>rfl) (fun _ _=>rfl) (fun _ _=>rfl) (fun _ _=>rfl) (fun _ _=>rfl) (fun _ _=>rfl) (fun _ _=>rfl) (fun _ _=>rfl) (fun _ _=>rfl) (fun _ _=>rfl) (fun _ _=>rfl) (fun _ _=>rfl) (fun _ _=>rfl) (fun _ _=>rfl) (fun _ _=>rfl) (fun _ _=>rfl)
theorem q3_C:∀j,j<16→q3P (BitVec.ofNat 8 (16*12+j)):=b16 (fun _ r=>j_ret r _ _ _ 0xDD#8 (metR r.f 0)) (fun _ _=>rfl) (fun _ r=>j_jp r _ _ _ 0xDD#8 (metR r.f 0)) (fun _ _=>rfl) (fun _ r=>j_call r _ _ _ 0xDD#8 (metR r.f 0)) (fun _ _=>rfl) (fun _ _=>rfl) (fun _ _=>rfl) (fun _ r=>j_ret r _ _ _ 0xDD#8 (metR r.f 1)) (fun _ _=>rfl) (fun _ r=>j_jp r _ _ _ 0xDD#8 (metR r.f 1)) (fun h=>absurd rfl h.2.2.2) (fun _ r=>j_call r _ _ _ 0xDD#8 (metR r.f 1)) (fun _ _=>rfl) (fun _ _=>rfl) (fun _ _=>rfl)
theorem q3_D:∀j,j<16→q3P (BitVec.ofNat 8 (16*13+j)):=b16 (fun _ r=>j_ret r _ _ _ 0xDD#8 (metR r.f 2)) (fun _ _=>rfl) (fun _ r=>j_jp r _ _ _ 0xDD#8 (metR r.f 2)) (fun _ _=>rfl) (fun _ r=>j_call r _ _ _ 0xDD#8 (metR r.f 2)) (fun _ _=>rfl) (fun _ _=>rfl) (fun _ _=>rfl) (fun _ r=>j_ret r _ _ _ 0xDD#8 (metR r.f 3)) (fun _ _=>rfl) (fun _ r=>j_jp r _ _ _ 0xDD#8 (metR r.f 3)) (fun _ _=>rfl) (fun _ r=>j_call r _ _ _ 0xDD#8 (metR r.f 3)) (fun h=>absurd rfl h.1) (fun _ _=>rfl) (fun _ _=>rfl)
theorem q3_E:∀j,j<16→q3P (BitVec.ofNat 8 (16*14+j)):=b16 (fun _ r=>j_ret r _ _ _ 0xDD#8 (metR r.f 4)) (fun _ _=>rfl) (fun _ r=>j_jp r _ _ _ 0xDD#8 (metR r.f 4)) (fun _ _=>rfl) (fun _ r=>j_call r _ _ _ 0xDD#8 (metR r.f 4)) (fun _ _=>rfl) (fun _ _=>rfl) (fun _ _=>rfl) (fun _ r=>j_ret r _ _ _ 0xDD#8 (metR r.f 5)) (fun _ _=>rfl) (fun _ r=>j_jp r _ _ _ 0xDD#8 (metR r.f 5)) (fun _ _=>rfl) (fun _ r=>j_call r _ _ _ 0xDD#8 (metR r.f 5)) (fun h=>absurd rfl h.2.2.1) (fun _ _=>rfl) (fun _ _=>rfl)
theorem q3_F:∀j,j<16→q3P (BitVec.ofNat 8 (16*15+j)):=b16 (fun _ r=>j_ret r _ _ _ 0xDD#8 (metR r.f 6)) (fun _ _=>rfl) (fun _ r=>j_jp r _ _ _ 0xDD#8 (metR r.f 6)) (fun _ _=>rfl) (fun _ r=>j_call r _ _ _ 0xDD#8 (metR r.f 6)) (fun _ _=>rfl) (fun _ _=>rfl) (fun _ _=>rfl) (fun _ r=>j_ret r _ _ _ 0xDD#8 (metR r.f 7)) (fun _ _=>rfl) (fun _ r=>j_jp r _ _ _ 0xDD#8 (metR r.f 7)) (fun _ _=>rfl) (fun _ r=>j_call r _ _ _ 0xDD#8 (metR r.f 7)) (fun h=>absurd rfl h.2.1) (fun _ _=>rfl) (fun _ _=>rfl)
theorem q3 (op:BitVec 8):q3P op:=b256 (b16 q3_0 q3_1 q3_2 q3_3 q3_4 q3_5 q3_6 q3_7 q3_8 q3_9 q3_A q3_B q3_C q3_D q3_E q3_F) op
end Go.Proofs.Joy
namespace Go.Proofs.Joy
open Go.Ab
set_option maxHeartbeats 4000000
set_option maxRecDepth 20000
def q4P (op:BitVec 8):Prop:=op≠0xDD#8∧op≠0xFD#8∧op≠0xED#8∧op≠0xCB#8→∀r:Rg,outX (xDo 4 op ⟨r,0#16,false,0⟩)=outC (plainM op ⟨r,0xFD#8⟩)
theorem q4_0:∀j,j<16→q4P (BitVec.ofNat 8 (16*0+j)):=b16 (fun _ _=>rfl) (fun _ _=>rfl) (fun _ _=>rfl) (fun _ _=>rfl) (fun _ _=>rfl) (fun _ _=>rfl) (fun _ _=>rfl) (fun _ _=>rfl) (fun _ _=>rfl) (fun _ _=>rfl) (fun _ _=>rfl) (fun _ _=>rfl) (fun _ _=>rfl) (fun _ _=>rfl) (fun _ _=>rfl) (fun _ _=>rfl)
theorem q4_1:∀j,j<16→q4P (BitVec.ofNat 8 (16*1+j)):=b16 (fun _ r=>j_jr { r with b:=r.b-1#8} _ _ _ 0xFD#8 (r.b-1#8 !=0#8) 8) (fun _ _=>rfl) (fun _ _=>rfl) (fun _ _=>rfl) (fun _ _=>rfl) (fun _ _=>rfl) (fun _ _=>rfl) (fun _ _=>rfl) (fun _ _=>rfl) (fun _ _=>rfl) (fun _ _=>rfl) (fun _ _=>rfl) (fun _ _=>rfl) (fun _ _=>rfl) (fun _ _=>rfl) (fun _ _=>rfl)
theorem q4_2:∀j,j<16→q4P (BitVec.ofNat 8 (16*2+j)):=b16 (fun _ r=>j_jr r _ _ _ 0xFD#8 (metR r.f 0) 7) (fun _ _=>rfl) (fun _ _=>rfl) (fun _ _=>rfl) (fun _ _=>rfl) (fun _ _=>rfl) (fun _ _=>rfl) (fun _ _=>rfl) (fun _ r=>j_jr r _ _ _ 0xFD#8 (metR r.f 1) 7) (fun _ _=>rfl) (fun _ _=>rfl) (fun _ _=>rfl) (fun _ _=>rfl) (fun _ _=>rfl) (fun _ _=>rfl) (fun _ _=>rfl)
theorem q4_3:∀j,j<16→q4P (BitVec.ofNat 8 (16*3+j)):=b16 (fun _ r=>j_jr r _ _ _ 0xFD#8 (metR r.f 2) 7) (fun _ _=>rfl) (fun _ _=>rfl) (fun _ _=>rfl) (fun _ _=>rfl) (fun _ _=>rfl) (fun _ _=>rfl) (fun _ _=>rfl) (fun _ r=>j_jr r _ _ _ 0xFD#8 (metR r.f 3) 7) (fun _ _=>rfl) (fun _ _=>rfl) (fun _ _=>rfl) (fun _ _=>rfl) (fun _ _=>rfl) (fun _ _=>rfl) (fun _ _=>rfl)
theorem q4_4:∀j,j<16→q4P (BitVec.ofNat 8 (16*4+j)):=b16 (fun _ _=>rfl) (fun _ _=>rfl) (fun _ _=>rfl) (fun _ _=>rfl) (fun _ _=>rfl) (fun _ _=>rfl) (fun _ _=>rfl) (fun _ _=>rfl) (fun _ _=>rfl) (fun _ _=>rfl) (fun _ _=>rfl) (fun _ _=>rfl) (fun _ _=>rfl) (fun _ _=>rfl) (fun _ _=>rfl) (fun _ _=>rfl)
theorem q4_5:∀j,j<16→q4P (BitVec.ofNat 8 (16*5+j)):=b16 (fun _ _=>rfl) (fun _ _=>rfl) (fun _ _=>rfl) (fun _ _=>rfl) (fun _ _=>rfl) (fun _ _=>rfl) (fun _ _=>rfl) (fun _ _=>rfl) (fun _ _=>rfl) (fun _ _=>rfl) (fun _ _=>rfl) (fun _ _=>rfl) (fun _ _=>rfl) (fun _ _=>rfl) (fun _ _=>rfl) (fun _ _=>rfl)
theorem q4_6:∀j,j<16→q4P (BitVec.ofNat 8 (16*6+j)):=b16 (fun _ _=>rfl) (fun _ _=>rfl) (fun _ _=>rfl) (fun _ _=>rfl) (fun _ _=>rfl) (fun _ _=>rfl) (fun _ _=>rfl) (fun _ _=>rfl) (fun _ _=>rfl) (fun _ _=>rfl) (fun _ _=>rfl) (fun _ _=>rfl) (fun _ _=>rfl) (fun _ _=>rfl) (fun _ _=>rfl) (fun _ _=>rfl)
theorem q4_7:∀j,j<16→q4P (BitVec.ofNat 8 (16*7+j)):=b16 (fun _ _=>rfl) (fun _ _=>rfl) (fun _ _=>rfl) (fun _ _=>rfl) (fun _ _=>rfl) (fun _ _=>rfl) (fun _ _=>rfl) (fun _ _=>rfl) (fun _ _=>rfl) (fun _ _=>rfl) (fun _ _=>rfl) (fun _ _=>rfl) (fun _ _=>rfl) (fun _ _=>rfl) (fun _ _=>rfl) (fun _ _=>rfl)
theorem q4_8:∀j,j<16→q4P (BitVec.ofNat 8 (16*8+j)):=b16 (fun _ _=>rfl) (fun _ _=>rfl) (fun _ _=>rfl) (fun _ _=>rfl) (fun _ _=>rfl) (fun _ _=>rfl) (fun _ _=>rfl) (fun _ _=>rfl) (fun _ _=>rfl) (fun _ _=>rfl) (fun _ _=>rfl) (fun _ _=>rfl) (fun _ _=>rfl) (fun _ _=>rfl) (fun _ _=>rfl) (fun _ _=>rfl)
theorem q4_9:∀j,j<16→q4P (BitVec.ofNat 8 (16*9+j)):=b16 (fun _ _=>rfl) (fun _ _=>rfl) (fun _ _=>rfl) (fun _ _=>rfl) (fun _ _=>rfl) (fun _ _=>rfl) (fun _ _=>rfl) (fun _ _=>rfl) (fun _ _=>rfl) (fun _ _=>rfl) (fun _ _=>rfl) (fun _ _=>rfl) (fun _ _=>rfl) (fun _ _=>rfl) (fun _ _=>rfl) (fun _ _=>rfl)
theorem q4_A:∀j,j<16→q4P (BitVec.ofNat 8 (16*10+j)):=b16 (fun _ _=>rfl) (fun _ _=>rfl) (fun _ _=>rfl) (fun _ _=>rfl) (fun _ _=>rfl) (fun _ _=>rfl) (fun _ _=>rfl) (fun _ _=>rfl) (fun _ _=>rfl) (fun _ _=>rfl) (fun _ _=>rfl) (fun _ _=>rfl) (fun _ _=>rfl) (fun _ _=>rfl) (fun _ _=>rfl) (fun _ _=>rfl)
theorem q4_B:∀j,j<16→q4P (BitVec.ofNat 8 (16*11+j)):=b16 (fun _ _=>rfl) (fun _ _=>rfl) (fun _ _=>rfl) (fun _ _=>rfl) (fun _ _=>rfl) (fun _ _=>rfl) (fun _ _=>rfl) (fun _ _=>rfl) (fun _ _=>rfl) (fun _ _=>rfl) (fun _ _=>rfl) (fun _ _=>rfl) (fun _ _=>rfl) (fun _ _=>rfl) (fun _ _=>rfl) (fun _ _=>rfl)
theorem q4_C:∀j,j<16→q4P (BitVec.ofNat 8 (16*12+j)):=b16 (fun _ r=>j_ret r _ _ _ 0xFD#8 (metR r.f 0)) (fun _ _=>rfl) (fun _ r=>j_jp r _ _ _ 0xFD#8 (metR r.f 0)) (fun _ _=>rfl) (fun _ r=>j_call r _ _ _ 0xFD#8 (metR r.f 0)) (fun _ _=>rfl) (fun _ _=>rfl) (fun _ _=>rfl) (fun _ r=>j_ret r _ _ _ 0xFD#8 (metR r.f 1)) (fun _ _=>rfl) (fun _ r=>j_jp r _ _ _ 0xFD#8 (metR r.f 1)) (fun h=>absurd rfl h.2.2.2) (fun _ r=>j_call r _ _ _ 0xFD#8 (metR r.f 1)) (fun _ _=>rfl) (fun _ _=>rfl) (fun _ _=>rfl)
theorem q4_D:∀j,j<16→q4P (BitVec.ofNat 8 (16*13+j)):=b16 (fun _ r=>j_ret r _ _ _ 0xFD#8 (metR r.f 2)) (fun _ _=>rfl) (fun _ r=>j_jp r _ _ _ 0xFD#8 (metR r.f 2)) (fun _ _=>rfl) (fun _ r=>j_call r _ _ _ 0xFD#8 (metR r.f 2)) (fun _ _=>rfl) (fun _ _=>rfl) (fun _ _=>rfl) (fun _ r=>j_ret r _ _ _ 0xFD#8 (metR r.f 3)) (fun _ _=>rfl) (fun _ r=>j_jp r _ _ _ 0xFD#8 (metR r.f 3)) (fun _ _=>rfl) (fun _ r=>j_call r _ _ _ 0xFD#8 (metR r.f 3)) (fun h=>absurd rfl h.1) (fun _ _=>rfl) (fun _ _=>rfl)
theorem q4_E:∀j,j<16→q4P (BitVec.ofNat 8 (16*14+j)):=b16 (fun _ r=>j_ret r _ _ _ 0xFD#8 (metR r.f 4)) (fun _ _=>rfl) (fun _ r=>j_jp r _ _ _ 0xFD#8 (metR r.f 4)) (fun _ _=>rfl) (fun _ r=>j_call r _ _ _ 0xFD#8 (metR r.f 4)) (fun _ _=>rfl) (fun _ _=>rfl) (fun _ _=>rfl) (fun _ r=>j_ret r _ _ _ 0xFD#8 (metR r.f 5)) (fun _ _=>rfl) (fun _ r=>j_jp r _ _ _ 0xFD#8 (metR r.f 5)) (fun _ _=>rfl) (fun _ r=>j_call r _ _ _ 0xFD#8 (metR r.f 5)) (fun h=>absurd rfl h.2.2.1) (fun _ _=>rfl) (fun _ _=>rfl)
theorem q4_F:∀j,j<16→q4P (BitVec.ofNat 8 (16*15+j)):=b16 (fun _ r=>j_ret r _ _ _ 0xFD#8 (metR r.f 6)) (fun _ _=>rfl) (fun _ r=>j_jp r _ _ _ 0xFD#8 (metR r.f 6)) (fun _ _=>rfl) (fun _ r=>j_call r _ _ _ 0xFD#8 (metR r.f 6)) (fun _ _=>rfl) (fun _ _=>rfl) (fun _ _=>rfl) (fun _ r=>j_ret r _ _ _ 0xFD#8 (metR r.f 7)) (fun _ _=>rfl) (fun _ r=>j_jp r _ _ _ 0xFD#8 (metR r.f 7)) (fun _ _=>rfl) (fun _ r=>j_call r _ _ _ 0xFD#8 (metR r.f 7)) (fun h=>absurd rfl h.2.1) (fun _ _=>rfl) (fun _ _=>rfl)
theorem q4 (op:BitVec 8):q4P op:=b256 (b16 q4_0 q4_1 q4_2 q4_3 q4_4 q4_5 q4_6 q4_7 q4_8 q4_9 q4_A q4_B q4_C q4_D q4_E q4_F) op
end Go.Proofs.Joy
namespace Go.Proofs.Joy
open Go.Ab
set_option maxHeartbeats 4000000
set_option maxRecDepth 20000
end Go.Proofs.Joy
namespace Go.Proofs.Joy
open Go.Ab
set_option maxHeartbeats 4000000
set_option maxRecDepth 20000
end Go.Proofs.Joy
namespace Go.Proofs.Joy
open Go.Ab
set_option maxHeartbeats 1000000
end Go.Proofs.Joy
namespace Go.Proofs.Joy
open Go.Ab Go.Proofs
set_option maxHeartbeats 1000000
set_option maxRecDepth 20000
theorem c_join (a b:BitVec 8) (H:Heap) (n:Nat) (K:AV→Heap→Nat→Prop) (h:K (.u16 (joinS a b)) H n):ACalls Tryz.prog 39 [.u8 a,.u8 b] H n K:=by
  refine ACalls.of_ev dr0 Tryz.func39 rfl (by decide +kernel) (by decide +kernel) (show 2≤11 by decide) (by simp) fun wf=>?_
  simp only[go_sem,Tryz.f39]
  exact Fin.back wf h (fun _ _=>rfl) rfl
theorem c_split (v:BitVec 16) (H:Heap) (n:Nat) (K:AV→Heap→Nat→Prop) (h:K (.tu [.u8 (hiS v),.u8 (loS v)]) H n):ACalls Tryz.prog 102 [.u16 v] H n K:=by
  refine ACalls.of_ev dr0 Tryz.func102 rfl (by decide +kernel) (by decide +kernel) (show 1≤9 by decide) (by simp) fun wf=>?_
  simp only[go_sem,Tryz.f102]
  exact Fin.back wf h (fun _ _=>rfl) rfl
theorem c_move (v:BitVec 16) (b:BitVec 8) (H:Heap) (n:Nat) (K:AV→Heap→Nat→Prop) (h:K (.u16 (moveS v b)) H n):ACalls Tryz.prog 108 [.u16 v,.u8 b] H n K:=by
  refine ACalls.of_ev dr0 Tryz.func108 rfl (by decide +kernel) (by decide +kernel) (show 2≤10 by decide) (by simp) fun wf=>?_
  simp only[go_sem,Tryz.f108]
  exact Fin.back wf h (fun _ _=>rfl) rfl
theorem c_half (a b v:BitVec 16) (H:Heap) (n:Nat) (K:AV→Heap→Nat→Prop) (h:K (.u8 (halfS a b v)) H n):ACalls Tryz.prog 162 [.u16 a,.u16 b,.u16 v] H n K:=by
  refine ACalls.of_ev dr0 Tryz.func162 rfl (by decide +kernel) (by decide +kernel) (show 3≤15 by decide) (by simp) fun wf=>?_
  simp only[go_sem,Tryz.f162]
  exact Fin.back wf h (fun _ _=>rfl) rfl
theorem c_flag (f:BitVec 8) (y:Bool) (H:Heap) (n:Nat) (K:AV→Heap→Nat→Prop) (h:K (.u8 (if y then f else 0#8)) H n):ACalls Tryz.prog 160 [.u8 f,.bo y] H n K:=by
  refine ACalls.of_ev dr0 Tryz.func160 rfl (by decide +kernel) (by decide +kernel) (show 2≤7 by decide) (by simp) fun wf=>?_
  simp only[go_sem,Tryz.f160]
  refine⟨fun e=>?_,fun e=>?_⟩
  · exact Fin.keep (by simpa [e] using h)
  · exact Fin.keep (by simpa [e] using h)
theorem c_bit (y:Bool) (H:Heap) (n:Nat) (K:AV→Heap→Nat→Prop) (h:K (.u16 (bit16 y)) H n):ACalls Tryz.prog 163 [.bo y] H n K:=by
  refine ACalls.of_ev dr0 Tryz.func163 rfl (by decide +kernel) (by decide +kernel) (show 1≤4 by decide) (by simp) fun wf=>?_
  simp only[go_sem,Tryz.f163]
  refine⟨fun e=>?_,fun e=>?_⟩
  · exact Fin.keep (by simpa [e,bit16] using h)
  · exact Fin.keep (by simpa [e,bit16] using h)
theorem c_shape (v:BitVec 8) (H:Heap) (n:Nat) (K:AV→Heap→Nat→Prop) (h:K (.u8 (shapeS v)) H n):ACalls Tryz.prog 97 [.u8 v] H n K:=by
  refine ACalls.of_ev dr0 Tryz.func97 rfl (by decide +kernel) (by decide +kernel) (show 1≤9 by decide) (by simp) fun wf=>?_
  simp only[go_sem,Tryz.f97]
  refine c_flag _ _ _ _ _ ?_
  simp only[go_sem]
  exact Fin.back wf h (fun _ _=>rfl) rfl
theorem c_ones (v:BitVec 8) (H:Heap) (n:Nat) (K:AV→Heap→Nat→Prop) (h:K (.i64 (onesS v)) H n):ACalls Tryz.prog 161 [.u8 v] H n K:=by
  refine ACalls.of_ev dr0 Tryz.func161 rfl (by decide +kernel) (by decide +kernel) (show 1≤6 by decide) (by simp) fun wf=>?_
  simp only[go_sem,Tryz.f161]
  generalize hL:List.map UInt8.toBitVec _=L
  have hT:L.length=256∧∀q:Fin 256,(L.getD q.val 0#8).toNat=onesS (BitVec.ofFin q):=by subst hL; decide +kernel
  have h1:=hT.2 ⟨v.toNat,v.isLt⟩
  have h2:BitVec.ofFin (⟨v.toNat,v.isLt⟩:Fin (2 ^ 8))=v:=rfl
  simp only at h1
  rw[h2] at h1
  have:=v.isLt
  rw[hT.1,h1]
  exact⟨by omega,Fin.back wf h (fun _ _=>rfl) rfl⟩
theorem c_parity (v:BitVec 8) (H:Heap) (n:Nat) (K:AV→Heap→Nat→Prop) (h:K (.bo (parityS v)) H n):ACalls Tryz.prog 98 [.u8 v] H n K:=by
  refine ACalls.of_ev dr0 Tryz.func98 rfl (by decide +kernel) (by decide +kernel) (show 1≤7 by decide) (by simp) fun wf=>?_
  simp only[go_sem,Tryz.f98]
  refine c_ones _ _ _ _ ?_
  have e:((((onesS v:Nat):Int)).tmod 2==0)=parityS v:=by
    rw[Int.tmod_eq_emod_of_nonneg (by omega)]; unfold parityS
    rw[Bool.eq_iff_iff,beq_iff_eq,beq_iff_eq]; omega
  simp only[go_sem,e]
  exact Fin.back wf h (fun _ _=>rfl) rfl
theorem c_add (a b:BitVec 8) (c:Bool) (H:Heap) (n:Nat) (K:AV→Heap→Nat→Prop) (h:K (.tu [.u8 (addS a b c).1,.u8 (addS a b c).2]) H n):ACalls Tryz.prog 103 [.u8 a,.u8 b,.bo c] H n K:=by
  refine ACalls.of_ev dr0 Tryz.func103 rfl (by decide +kernel) (by decide +kernel) (show 3≤49 by decide) (by simp) fun wf=>?_
  simp only[go_sem,Tryz.f103]
  refine c_bit _ _ _ _ ?_
  simp only[go_sem]
  refine c_shape _ _ _ _ ?_
  simp only[go_sem]
  exact Fin.back wf h (fun _ _=>rfl) rfl
theorem c_sub (a b:BitVec 8) (c:Bool) (H:Heap) (n:Nat) (K:AV→Heap→Nat→Prop) (h:K (.tu [.u8 (subS a b c).1,.u8 (subS a b c).2]) H n):ACalls Tryz.prog 55 [.u8 a,.u8 b,.bo c] H n K:=by
  refine ACalls.of_ev dr0 Tryz.func55 rfl (by decide +kernel) (by decide +kernel) (show 3≤23 by decide) (by simp) fun wf=>?_
  simp only[go_sem,Tryz.f55]
  refine c_add _ _ _ _ _ _ ?_
  simp only[go_sem]
  exact Fin.back wf h (fun _ _=>rfl) rfl
theorem c_logic (v:BitVec 8) (H:Heap) (n:Nat) (K:AV→Heap→Nat→Prop) (h:K (.u8 (logicS v)) H n):ACalls Tryz.prog 194 [.u8 v] H n K:=by
  refine ACalls.of_ev dr0 Tryz.func194 rfl (by decide +kernel) (by decide +kernel) (show 1≤9 by decide) (by simp) fun wf=>?_
  simp only[go_sem,Tryz.f194]
  refine c_shape _ _ _ _ ?_
  simp only[go_sem]
  refine c_parity _ _ _ _ ?_
  simp only[go_sem]
  refine c_flag _ _ _ _ _ ?_
  simp only[go_sem]
  exact Fin.back wf h (fun _ _=>rfl) rfl
theorem c_and (a b:BitVec 8) (H:Heap) (n:Nat) (K:AV→Heap→Nat→Prop) (h:K (.tu [.u8 (a&&&b),.u8 (logicS (a&&&b)|||16#8)]) H n):ACalls Tryz.prog 172 [.u8 a,.u8 b] H n K:=by
  refine ACalls.of_ev dr0 Tryz.func172 rfl (by decide +kernel) (by decide +kernel) (show 2≤14 by decide) (by simp) fun wf=>?_
  simp only[go_sem,Tryz.f172]
  refine c_logic _ _ _ _ ?_
  simp only[go_sem]
  exact Fin.back wf h (fun _ _=>rfl) rfl
theorem c_xor (a b:BitVec 8) (H:Heap) (n:Nat) (K:AV→Heap→Nat→Prop) (h:K (.tu [.u8 (a^^^b),.u8 (logicS (a^^^b))]) H n):ACalls Tryz.prog 173 [.u8 a,.u8 b] H n K:=by
  refine ACalls.of_ev dr0 Tryz.func173 rfl (by decide +kernel) (by decide +kernel) (show 2≤13 by decide) (by simp) fun wf=>?_
  simp only[go_sem,Tryz.f173]
  refine c_logic _ _ _ _ ?_
  simp only[go_sem]
  exact Fin.back wf h (fun _ _=>rfl) rfl
theorem c_or (a b:BitVec 8) (H:Heap) (n:Nat) (K:AV→Heap→Nat→Prop) (h:K (.tu [.u8 (a|||b),.u8 (logicS (a|||b))]) H n):ACalls Tryz.prog 174 [.u8 a,.u8 b] H n K:=by
  refine ACalls.of_ev dr0 Tryz.func174 rfl (by decide +kernel) (by decide +kernel) (show 2≤13 by decide) (by simp) fun wf=>?_
  simp only[go_sem,Tryz.f174]
  refine c_logic _ _ _ _ ?_
  simp only[go_sem]
  exact Fin.back wf h (fun _ _=>rfl) rfl
theorem c_compare (a b:BitVec 8) (H:Heap) (n:Nat) (K:AV→Heap→Nat→Prop) (h:K (.u8 (compareS a b)) H n):ACalls Tryz.prog 175 [.u8 a,.u8 b] H n K:=by
  refine ACalls.of_ev dr0 Tryz.func175 rfl (by decide +kernel) (by decide +kernel) (show 2≤18 by decide) (by simp) fun wf=>?_
  simp only[go_sem,Tryz.f175]
  refine c_sub _ _ _ _ _ _ ?_
  simp only[go_sem]
  exact Fin.back wf h (fun _ _=>rfl) rfl
theorem c_inc (v f:BitVec 8) (H:Heap) (n:Nat) (K:AV→Heap→Nat→Prop) (h:K (.tu [.u8 (incS v f).1,.u8 (incS v f).2]) H n):ACalls Tryz.prog 167 [.u8 v,.u8 f] H n K:=by
  refine ACalls.of_ev dr0 Tryz.func167 rfl (by decide +kernel) (by decide +kernel) (show 2≤19 by decide) (by simp) fun wf=>?_
  simp only[go_sem,Tryz.f167]
  refine c_add _ _ _ _ _ _ ?_
  simp only[go_sem]
  exact Fin.back wf h (fun _ _=>rfl) rfl
theorem c_dec (v f:BitVec 8) (H:Heap) (n:Nat) (K:AV→Heap→Nat→Prop) (h:K (.tu [.u8 (decS v f).1,.u8 (decS v f).2]) H n):ACalls Tryz.prog 168 [.u8 v,.u8 f] H n K:=by
  refine ACalls.of_ev dr0 Tryz.func168 rfl (by decide +kernel) (by decide +kernel) (show 2≤19 by decide) (by simp) fun wf=>?_
  simp only[go_sem,Tryz.f168]
  refine c_sub _ _ _ _ _ _ ?_
  simp only[go_sem]
  exact Fin.back wf h (fun _ _=>rfl) rfl
theorem and7 (k:Nat):and64 (k:Int) 7=((k%8:Nat):Int):=by
  have:=and64_mask 3 (by decide) (k:Int)
  rw[show(((2 ^ 3-1:Nat):Nat):Int)=7 from rfl] at this
  rw[this]; omega
theorem and3 (k:Nat):and64 (k:Int) 3=((k%4:Nat):Int):=by
  have:=and64_mask 2 (by decide) (k:Int)
  rw[show(((2 ^ 2-1:Nat):Nat):Int)=3 from rfl] at this
  rw[this]; omega
theorem c_do (op:Nat) (a b f:BitVec 8) (H:Heap) (n:Nat) (K:AV→Heap→Nat→Prop) (h:K (.tu [.u8 (doS op a b f).1,.u8 (doS op a b f).2]) H n):ACalls Tryz.prog 115 [.i64 op,.u8 a,.u8 b,.u8 f] H n K:=by
  refine ACalls.of_ev dr0 Tryz.func115 rfl (by decide +kernel) (by decide +kernel) (show 4≤71 by decide) (by simp) fun wf=>?_
  simp only[go_sem,Tryz.f115]
  rw[and7]
  have h8:op%8<8:=Nat.mod_lt _ (by decide)
  unfold doS at h
  generalize op%8=q at h h8 ⊢
  obtain rfl | rfl | rfl | rfl | rfl | rfl | rfl | rfl:q=0∨q=1∨q=2∨q=3∨q=4∨q=5∨q=6∨q=7:=by omega
  all_goals simp +decide only[if_true,if_false] at h
  all_goals simp only[go_sem]
  · refine c_add _ _ _ _ _ _ ?_
    simp only[go_sem]
    exact Fin.back wf h (fun _ _=>rfl) rfl
  · refine c_add _ _ _ _ _ _ ?_
    simp only[go_sem]
    exact Fin.back wf h (fun _ _=>rfl) rfl
  · refine c_sub _ _ _ _ _ _ ?_
    simp only[go_sem]
    exact Fin.back wf h (fun _ _=>rfl) rfl
  · refine c_sub _ _ _ _ _ _ ?_
    simp only[go_sem]
    exact Fin.back wf h (fun _ _=>rfl) rfl
  · refine c_and _ _ _ _ _ ?_
    simp only[go_sem]
    exact Fin.back wf h (fun _ _=>rfl) rfl
  · refine c_xor _ _ _ _ _ ?_
    simp only[go_sem]
    exact Fin.back wf h (fun _ _=>rfl) rfl
  · refine c_or _ _ _ _ _ ?_
    simp only[go_sem]
    exact Fin.back wf h (fun _ _=>rfl) rfl
  · refine c_compare _ _ _ _ _ ?_
    simp only[go_sem]
    exact Fin.back wf h (fun _ _=>rfl) rfl
theorem c_daa (a f:BitVec 8) (H:Heap) (n:Nat) (K:AV→Heap→Nat→Prop) (h:K (.tu [.u8 (daaS a f).1,.u8 (daaS a f).2]) H n):ACalls Tryz.prog 170 [.u8 a,.u8 f] H n K:=by
  refine ACalls.of_awp Tryz.func170 rfl (by decide +kernel) (show 2≤50 by decide) (by simp) fun wf=>?_
  refine awp_ev dr0 (by decide +kernel) ?_
  unfold daaS at h
  cases h1:(f&&&16#8 !=0#8) <;> cases h2:(f&&&1#8 !=0#8) <;> cases h3:(f&&&2#8 !=0#8)
  all_goals
    simp only[h1,h2,h3,Bool.true_or,Bool.false_or,Bool.false_eq_true,if_false,if_true,decide_eq_true_eq] at h
    simp only[go_sem,Tryz.f170,h1,h2,h3]
    refine c_flag _ _ _ _ _ ?_
    simp only[go_sem,h1,h2,h3]
    refine c_flag _ _ _ _ _ ?_
    simp only[go_sem,h1,h2,h3,Bool.false_eq_true,if_false,if_true]
    refine c_logic _ _ _ _ ?_
    simp only[go_sem,h1,h2,h3]
    refine c_flag _ _ _ _ _ ?_
    simp only[go_sem,h1,h2,h3]
    exact Fin.back wf h (fun _ _=>rfl) rfl
theorem c_flip (op:Nat) (a f:BitVec 8) (H:Heap) (n:Nat) (K:AV→Heap→Nat→Prop) (h:K (.tu [.u8 (flipS op a f).1,.u8 (flipS op a f).2]) H n):ACalls Tryz.prog 171 [.i64 op,.u8 a,.u8 f] H n K:=by
  refine ACalls.of_awp Tryz.func171 rfl (by decide +kernel) (show 3≤53 by decide) (by simp) fun wf=>?_
  refine awp_ev dr0 (by decide +kernel) ?_
  unfold flipS at h
  by_cases h0:op=0
  · subst h0
    simp +decide only[if_true] at h
    simp only[go_sem,Tryz.f171]
    exact Fin.back wf h (fun _ _=>rfl) rfl
  by_cases h1:op=1
  · subst h1
    simp +decide only[if_true,if_false] at h
    simp only[go_sem,Tryz.f171]
    exact Fin.back wf h (fun _ _=>rfl) rfl
  by_cases h2:op=2
  · subst h2
    simp +decide only[if_true,if_false] at h
    simp only[go_sem,Tryz.f171]
    refine c_flag _ _ _ _ _ ?_
    simp only[go_sem]
    refine c_flag _ _ _ _ _ ?_
    simp only[go_sem]
    exact Fin.back wf h (fun _ _=>rfl) rfl
  simp only[h0,h1,h2,if_false] at h
  have e0:(((op:Nat):Int)==0)=false:=by simpa using h0
  have e1:(((op:Nat):Int)==1)=false:=by rw[beq_eq_false_iff_ne]; omega
  have e2:(((op:Nat):Int)==2)=false:=by rw[beq_eq_false_iff_ne]; omega
  simp only[go_sem,Tryz.f171,e0,e1,e2]
  exact Fin.back wf h (fun _ _=>rfl) rfl
theorem c_add16 (a b:BitVec 16) (f:BitVec 8) (H:Heap) (n:Nat) (K:AV→Heap→Nat→Prop) (h:K (.tu [.u16 (add16 a b f).1,.u8 (add16 a b f).2]) H n):ACalls Tryz.prog 110 [.u16 a,.u16 b,.u8 f] H n K:=by
  refine ACalls.of_ev dr0 Tryz.func110 rfl (by decide +kernel) (by decide +kernel) (show 3≤37 by decide) (by simp) fun wf=>?_
  simp only[go_sem,Tryz.f110]
  refine c_half _ _ _ _ _ _ ?_
  simp only[go_sem]
  exact Fin.back wf h (fun _ _=>rfl) rfl
theorem c_full (a b:BitVec 16) (c:BitVec 32) (H:Heap) (n:Nat) (K:AV→Heap→Nat→Prop) (h:K (.tu [.u16 (full16 a b c).1,.u8 (full16 a b c).2]) H n):ACalls Tryz.prog 101 [.u16 a,.u16 b,.u32 c] H n K:=by
  refine ACalls.of_ev dr0 Tryz.func101 rfl (by decide +kernel) (by decide +kernel) (show 3≤52 by decide) (by simp) fun wf=>?_
  simp only[go_sem,Tryz.f101]
  refine c_half _ _ _ _ _ _ ?_
  simp only[go_sem]
  unfold full16 at h
  refine⟨fun e=>?_,fun e=>?_⟩
  · simp only[e,if_true] at h
    exact Fin.back wf h (fun _ _=>rfl) rfl
  · simp only[e,Bool.false_eq_true,if_false] at h
    exact Fin.back wf h (fun _ _=>rfl) rfl
theorem c_adc16 (a b:BitVec 16) (f:BitVec 8) (H:Heap) (n:Nat) (K:AV→Heap→Nat→Prop) (h:K (.tu [.u16 (adc16 a b f).1,.u8 (adc16 a b f).2]) H n):ACalls Tryz.prog 51 [.u16 a,.u16 b,.u8 f] H n K:=by
  refine ACalls.of_ev dr0 Tryz.func51 rfl (by decide +kernel) (by decide +kernel) (show 3≤16 by decide) (by simp) fun wf=>?_
  simp only[go_sem,Tryz.f51]
  refine c_full _ _ _ _ _ _ ?_
  simp only[go_sem]
  exact Fin.back wf h (fun _ _=>rfl) rfl
theorem c_sbc16 (a b:BitVec 16) (f:BitVec 8) (H:Heap) (n:Nat) (K:AV→Heap→Nat→Prop) (h:K (.tu [.u16 (sbc16 a b f).1,.u8 (sbc16 a b f).2]) H n):ACalls Tryz.prog 50 [.u16 a,.u16 b,.u8 f] H n K:=by
  refine ACalls.of_ev dr0 Tryz.func50 rfl (by decide +kernel) (by decide +kernel) (show 3≤25 by decide) (by simp) fun wf=>?_
  simp only[go_sem,Tryz.f50]
  refine c_full _ _ _ _ _ _ ?_
  simp only[go_sem]
  exact Fin.back wf h (fun _ _=>rfl) rfl
theorem c_said (v:BitVec 8) (H:Heap) (n:Nat) (K:AV→Heap→Nat→Prop) (h:K (.u8 (saidS v)) H n):ACalls Tryz.prog 164 [.u8 v] H n K:=by
  refine ACalls.of_ev dr0 Tryz.func164 rfl (by decide +kernel) (by decide +kernel) (show 1≤11 by decide) (by simp) fun wf=>?_
  simp only[go_sem,Tryz.f164]
  refine c_shape _ _ _ _ ?_
  simp only[go_sem]
  refine c_parity _ _ _ _ ?_
  simp only[go_sem]
  unfold saidS at h
  refine⟨fun e=>?_,fun e=>?_⟩
  · simp only[e,if_true] at h
    exact Fin.back wf h (fun _ _=>rfl) rfl
  · simp only[e,Bool.false_eq_true,if_false] at h
    exact Fin.back wf h (fun _ _=>rfl) rfl
theorem rol8:∀x:BitVec 8,(x<<<1|||x>>>7)=x.rotateLeft 1:=by decide +kernel
theorem ror8:∀x:BitVec 8,(x<<<7|||x>>>1)=x.rotateLeft 7:=by decide +kernel
theorem c_rol (x:BitVec 8) (H:Heap) (n:Nat) (K:AV→Heap→Nat→Prop) (h:K (.u8 (x.rotateLeft 1)) H n):ACalls Tryz.prog 193 [.u8 x,.i64 1] H n K:=by
  refine ACalls.of_ev dr0 Tryz.func193 rfl (by decide +kernel) (by decide +kernel) (show 2≤17 by decide) (by simp) fun wf=>?_
  simp only[go_sem,Tryz.f193]
  rw[rol8]
  exact Fin.back wf h (fun _ _=>rfl) rfl
theorem c_ror (x:BitVec 8) (H:Heap) (n:Nat) (K:AV→Heap→Nat→Prop) (h:K (.u8 (x.rotateLeft 7)) H n):ACalls Tryz.prog 193 [.u8 x,.i64 (-1)] H n K:=by
  refine ACalls.of_ev dr0 Tryz.func193 rfl (by decide +kernel) (by decide +kernel) (show 2≤17 by decide) (by simp) fun wf=>?_
  simp only[go_sem,Tryz.f193]
  rw[ror8]
  exact Fin.back wf h (fun _ _=>rfl) rfl
theorem c_turn (op:Nat) (v f:BitVec 8) (H:Heap) (n:Nat) (K:AV→Heap→Nat→Prop) (h:K (.tu [.u8 (turnS op v f).1,.u8 (turnS op v f).2]) H n):ACalls Tryz.prog 165 [.i64 op,.u8 v,.u8 f] H n K:=by
  refine ACalls.of_ev dr0 Tryz.func165 rfl (by decide +kernel) (by decide +kernel) (show 3≤67 by decide) (by simp) fun wf=>?_
  simp only[go_sem,Tryz.f165]
  rw[and7]
  have h8:op%8<8:=Nat.mod_lt _ (by decide)
  unfold turnS at h
  generalize op%8=q at h h8 ⊢
  obtain rfl | rfl | rfl | rfl | rfl | rfl | rfl | rfl:q=0∨q=1∨q=2∨q=3∨q=4∨q=5∨q=6∨q=7:=by omega
  all_goals simp +decide only[if_true,if_false] at h
  all_goals simp only[go_sem]
  · refine c_rol _ _ _ _ ?_
    simp only[go_sem]
    exact Fin.back wf h (fun _ _=>rfl) rfl
  · refine c_ror _ _ _ _ ?_
    simp only[go_sem]
    exact Fin.back wf h (fun _ _=>rfl) rfl
  all_goals exact Fin.back wf h (fun _ _=>rfl) rfl
theorem c_rot (op:Nat) (v f:BitVec 8) (H:Heap) (n:Nat) (K:AV→Heap→Nat→Prop) (h:K (.tu [.u8 (rotS op v f).1,.u8 (rotS op v f).2]) H n):ACalls Tryz.prog 105 [.i64 op,.u8 v,.u8 f] H n K:=by
  refine ACalls.of_ev dr0 Tryz.func105 rfl (by decide +kernel) (by decide +kernel) (show 3≤23 by decide) (by simp) fun wf=>?_
  simp only[go_sem,Tryz.f105]
  refine c_turn _ _ _ _ _ _ ?_
  simp only[go_sem]
  refine c_said _ _ _ _ ?_
  simp only[go_sem]
  exact Fin.back wf h (fun _ _=>rfl) rfl
theorem c_quick (op:Nat) (v f:BitVec 8) (H:Heap) (n:Nat) (K:AV→Heap→Nat→Prop) (h:K (.tu [.u8 (quickS op v f).1,.u8 (quickS op v f).2]) H n):ACalls Tryz.prog 169 [.i64 op,.u8 v,.u8 f] H n K:=by
  refine ACalls.of_ev dr0 Tryz.func169 rfl (by decide +kernel) (by decide +kernel) (show 3≤27 by decide) (by simp) fun wf=>?_
  simp only[go_sem,Tryz.f169]
  rw[and3]
  refine c_turn _ _ _ _ _ _ ?_
  simp only[go_sem]
  exact Fin.back wf h (fun _ _=>rfl) rfl
theorem c_bitt (m:Nat) (v f from_:BitVec 8) (H:Heap) (n:Nat) (K:AV→Heap→Nat→Prop) (h:K (.u8 (bitS8 m v f from_)) H n):ACalls Tryz.prog 106 [.i64 m,.u8 v,.u8 f,.u8 from_] H n K:=by
  refine ACalls.of_ev dr0 Tryz.func106 rfl (by decide +kernel) (by decide +kernel) (show 4≤31 by decide) (by simp) fun wf=>?_
  simp only[go_sem,Tryz.f106]
  simp only[go_sem,and7]
  unfold bitS8 at h
  refine⟨fun e=>?_,fun e=>?_⟩
  · simp only[e,if_true] at h
    exact Fin.back wf h (fun _ _=>rfl) rfl
  · simp only[e,Bool.false_eq_true,if_false] at h
    exact Fin.back wf h (fun _ _=>rfl) rfl
theorem c_put (m:Nat) (v:BitVec 8) (on:Bool) (H:Heap) (n:Nat) (K:AV→Heap→Nat→Prop) (h:K (.u8 (putS8 m v on)) H n):ACalls Tryz.prog 107 [.i64 m,.u8 v,.bo on] H n K:=by
  refine ACalls.of_ev dr0 Tryz.func107 rfl (by decide +kernel) (by decide +kernel) (show 3≤18 by decide) (by simp) fun wf=>?_
  simp only[go_sem,Tryz.f107]
  simp only[and7,Int.toNat_natCast]
  unfold putS8 at h
  refine⟨by omega,fun e=>?_,fun e=>?_⟩
  · simp only[e,if_true] at h
    exact Fin.back wf h (fun _ _=>rfl) rfl
  · simp only[e,Bool.false_eq_true,if_false] at h
    exact Fin.back wf h (fun _ _=>rfl) rfl
theorem c_digits (left:Bool) (a m f:BitVec 8) (H:Heap) (n:Nat) (K:AV→Heap→Nat→Prop) (h:K (.tu [.u8 (digitsS left a m f).1,.u8 (digitsS left a m f).2.1,.u8 (digitsS left a m f).2.2]) H n):ACalls Tryz.prog 104 [.bo left,.u8 a,.u8 m,.u8 f] H n K:=by
  refine ACalls.of_awp Tryz.func104 rfl (by decide +kernel) (show 4≤42 by decide) (by simp) fun wf=>?_
  refine awp_ev dr0 (by decide +kernel) ?_
  unfold digitsS at h
  cases left
  all_goals
    simp only[Bool.false_eq_true,if_false,if_true] at h
    simp only[go_sem,Tryz.f104]
    refine c_said _ _ _ _ ?_
    simp only[go_sem]
    exact Fin.back wf h (fun _ _=>rfl) rfl
theorem c_odd (x:BitVec 8) (H:Heap) (n:Nat) (K:AV→Heap→Nat→Prop) (h:K (.u8 (oddS x)) H n):ACalls Tryz.prog 158 [.u8 x] H n K:=by
  refine ACalls.of_ev dr0 Tryz.func158 rfl (by decide +kernel) (by decide +kernel) (show 1≤9 by decide) (by simp) fun wf=>?_
  simp only[go_sem,Tryz.f158]
  exact Fin.back wf h (fun _ _=>rfl) rfl
theorem c_more (x:BitVec 16) (H:Heap) (n:Nat) (K:AV→Heap→Nat→Prop) (h:K (.u8 (moreS x)) H n):ACalls Tryz.prog 157 [.u16 x] H n K:=by
  refine ACalls.of_ev dr0 Tryz.func157 rfl (by decide +kernel) (by decide +kernel) (show 1≤5 by decide) (by simp) fun wf=>?_
  simp only[go_sem,Tryz.f157]
  unfold moreS at h
  refine⟨fun e=>?_,fun e=>?_⟩
  · simp only[e,if_true] at h
    exact Fin.back wf h (fun _ _=>rfl) rfl
  · simp only[e,Bool.false_eq_true,if_false] at h
    exact Fin.back wf h (fun _ _=>rfl) rfl
theorem c_rload (a v f:BitVec 8) (l:BitVec 16) (H:Heap) (n:Nat) (K:AV→Heap→Nat→Prop) (h:K (.u8 (repLoad a v f l)) H n):ACalls Tryz.prog 91 [.u8 a,.u8 v,.u8 f,.u16 l] H n K:=by
  refine ACalls.of_ev dr0 Tryz.func91 rfl (by decide +kernel) (by decide +kernel) (show 4≤19 by decide) (by simp) fun wf=>?_
  simp only[go_sem,Tryz.f91]
  refine c_more _ _ _ _ ?_
  simp only[go_sem]
  refine c_odd _ _ _ _ ?_
  simp only[go_sem]
  exact Fin.back wf h (fun _ _=>rfl) rfl
theorem c_rseek (a v f:BitVec 8) (l:BitVec 16) (H:Heap) (n:Nat) (K:AV→Heap→Nat→Prop) (h:K (.tu [.u8 (repSeek a v f l).1,.bo (repSeek a v f l).2]) H n):ACalls Tryz.prog 92 [.u8 a,.u8 v,.u8 f,.u16 l] H n K:=by
  refine ACalls.of_ev dr0 Tryz.func92 rfl (by decide +kernel) (by decide +kernel) (show 4≤46 by decide) (by simp) fun wf=>?_
  simp only[go_sem,Tryz.f92]
  refine c_sub _ _ _ _ _ _ ?_
  simp only[go_sem]
  refine c_more _ _ _ _ ?_
  simp only[go_sem]
  refine c_odd _ _ _ _ ?_
  simp only[go_sem]
  unfold repSeek at h
  refine⟨fun e=>?_,fun e=>?_⟩
  · simp only[e,Bool.true_and] at h
    exact Fin.back wf h (fun _ _=>rfl) rfl
  · simp only[e,Bool.false_and] at h
    exact Fin.back wf h (fun _ _=>rfl) rfl
theorem c_rport (v w b:BitVec 8) (H:Heap) (n:Nat) (K:AV→Heap→Nat→Prop) (h:K (.u8 (repPort v w b)) H n):ACalls Tryz.prog 93 [.u8 v,.u8 w,.u8 b] H n K:=by
  refine ACalls.of_ev dr0 Tryz.func93 rfl (by decide +kernel) (by decide +kernel) (show 3≤33 by decide) (by simp) fun wf=>?_
  simp only[go_sem,Tryz.f93]
  refine c_shape _ _ _ _ ?_
  simp only[go_sem]
  unfold repPort at h
  refine⟨fun e=>?_,fun e=>?_⟩
  all_goals
    simp only[e,decide_true,decide_false,Bool.false_eq_true,if_true,if_false] at h
    refine c_parity _ _ _ _ ?_
    cases hp:parityS ((BitVec.setWidth 8 (BitVec.setWidth 16 v+BitVec.setWidth 16 w)&&&7#8)^^^b)
    · simp only[hp,Bool.false_eq_true,if_false] at h
      simp only[go_sem]
      exact Fin.back wf h (fun _ _=>rfl) rfl
    · simp only[hp,if_true] at h
      simp only[go_sem]
      exact Fin.back wf h (fun _ _=>rfl) rfl
end Go.Proofs.Joy
namespace Go.Proofs.Joy
open Go.Ab Go.Proofs
set_option maxHeartbeats 2000000
set_option maxRecDepth 20000
theorem c_index (p:BitVec 8) (H:Heap) (n:Nat) (K:AV→Heap→Nat→Prop) (h:K (.i64 (idxS p)) H n):ACalls Tryz.prog 159 [.u8 p] H n K:=by
  refine ACalls.of_ev dr0 Tryz.func159 rfl (by decide +kernel) (by decide +kernel) (show 1≤8 by decide) (by simp) fun wf=>?_
  simp only[go_sem,Tryz.f159]
  unfold idxS at h
  refine⟨fun e=>?_,fun e=>⟨fun e2=>?_,fun e2=>?_⟩⟩
  · simp only[e,if_true] at h
    exact Fin.back wf h (fun _ _=>rfl) rfl
  · simp only[e,e2,Bool.false_eq_true,if_false,if_true] at h
    exact Fin.back wf h (fun _ _=>rfl) rfl
  · simp only[e,e2,Bool.false_eq_true,if_false] at h
    exact Fin.back wf h (fun _ _=>rfl) rfl
theorem idxS_lt (p:BitVec 8):idxS p<7:=by unfold idxS; split <;> (try split) <;> decide
theorem rg_ok (r:Rg) (n:Nat):(AV.ag r.cells).ok n=true:=by simp[AV.ok,AV.oks,AV.one,Rg.cells]
theorem c_pair (r:Rg) (m:Nat) (hm:m<7) (H:Heap) (n:Nat) (K:AV→Heap→Nat→Prop) (h:K (.u16 (pairR r m)) H n):ACalls Tryz.prog 95 [.ag r.cells,.i64 m] H n K:=by
  refine ACalls.of_awp Tryz.func95 rfl (by decide +kernel) (show 2≤46 by decide) (by simp) fun wf=>?_
  refine awp_ev dr0 (by decide +kernel) ?_
  unfold pairR at h
  obtain rfl | rfl | rfl | rfl | rfl | rfl | rfl:m=0∨m=1∨m=2∨m=3∨m=4∨m=5∨m=6:=by omega
  all_goals simp +decide only[if_true,if_false] at h
  all_goals simp only[go_sem,Tryz.f95,Rg.cells]
  all_goals try (refine c_join _ _ _ _ _ ?_; simp only[go_sem])
  all_goals exact Fin.back wf h (fun i hi=>by rw[Heap.upd_ne _ _ (by omega)]) rfl
theorem c_setpair (r:Rg) (m:Nat) (hm:m<7) (v:BitVec 16) (H:Heap) (n:Nat) (K:AV→Heap→Nat→Prop) (h:K (.ag (setPairR r m v).cells) H n):ACalls Tryz.prog 94 [.ag r.cells,.i64 m,.u16 v] H n K:=by
  refine ACalls.of_awp Tryz.func94 rfl (by decide +kernel) (show 3≤52 by decide) (by simp) fun wf=>?_
  refine awp_ev dr0 (by decide +kernel) ?_
  unfold setPairR at h
  obtain rfl | rfl | rfl | rfl | rfl | rfl | rfl:m=0∨m=1∨m=2∨m=3∨m=4∨m=5∨m=6:=by omega
  all_goals simp +decide only[if_true,if_false] at h
  all_goals simp only[go_sem,Tryz.f94,Rg.cells]
  all_goals (refine c_split _ _ _ _ ?_; simp only[go_sem])
  all_goals exact Fin.back wf h (fun i hi=>by repeat (rw[Heap.upd_ne _ _ (by omega)])) (rg_ok _ _)
theorem c_one (r:Rg) (m:Nat) (hm:m<8) (p:BitVec 8) (H:Heap) (n:Nat) (K:AV→Heap→Nat→Prop) (h:K (.u8 (oneR r m p)) H n):ACalls Tryz.prog 100 [.ag r.cells,.i64 m,.u8 p] H n K:=by
  refine ACalls.of_awp Tryz.func100 rfl (by decide +kernel) (show 3≤44 by decide) (by simp) fun wf=>?_
  refine awp_ev dr100 (by decide +kernel) ?_
  unfold oneR at h
  have hx:∀(r:Rg),[AV.u8 r.a,.u8 r.f,.u8 r.b,.u8 r.c,.u8 r.d,.u8 r.e,.u8 r.h,.u8 r.l,.u8 r.a2,.u8 r.f2,.u8 r.b2,.u8 r.c2,.u8 r.d2,.u8 r.e2,.u8 r.h2,.u8 r.l2,.u16 r.ix,.u16 r.iy,.u16 r.sp,.u16 r.pc,.u16 r.wz,.u8 r.i,.u8 r.r,.u8 r.im,.u8 r.pre,.bo r.iff1,.bo r.iff2,.bo r.hlt,.bo r.dly]=r.cells:=fun r=>rfl
  obtain rfl | rfl | rfl | rfl | rfl | rfl | rfl | rfl:m=0∨m=1∨m=2∨m=3∨m=4∨m=5∨m=6∨m=7:=by omega
  all_goals simp +decide only[if_true,if_false] at h
  all_goals
    simp only[go_sem,Tryz.f100,Rg.cells]
    refine c_index _ _ _ _ ?_
    simp only[go_sem]
    refine c_pair r (idxS p) (idxS_lt p) _ _ _ ?_
    simp only[go_sem]
    refine c_split _ _ _ _ ?_
    simp only[go_sem]
    exact Fin.back wf h (fun i hi=>by repeat (rw[Heap.upd_ne _ _ (by omega)])) rfl
theorem c_setone (r:Rg) (m:Nat) (hm:m<8) (p v:BitVec 8) (H:Heap) (n:Nat) (K:AV→Heap→Nat→Prop) (h:K (.ag (setOneR r m p v).cells) H n):ACalls Tryz.prog 99 [.ag r.cells,.i64 m,.u8 p,.u8 v] H n K:=by
  refine ACalls.of_awp Tryz.func99 rfl (by decide +kernel) (show 4≤59 by decide) (by simp) fun wf=>?_
  refine awp_ev dr99 (by decide +kernel) ?_
  unfold setOneR at h
  obtain rfl | rfl | rfl | rfl | rfl | rfl | rfl | rfl:m=0∨m=1∨m=2∨m=3∨m=4∨m=5∨m=6∨m=7:=by omega
  all_goals simp +decide only[if_true,if_false] at h
  all_goals
    simp only[go_sem,Tryz.f99,Rg.cells]
    refine c_index _ _ _ _ ?_
    simp only[go_sem]
    refine c_pair r (idxS p) (idxS_lt p) _ _ _ ?_
    simp only[go_sem]
    refine c_split _ _ _ _ ?_
    simp only[go_sem]
  all_goals try
    refine c_join _ _ _ _ _ ?_
    simp only[go_sem]
    refine c_setpair r (idxS p) (idxS_lt p) _ _ _ _ ?_
    simp only[go_sem,Rg.cells]
  all_goals exact Fin.back wf h (fun i hi=>by repeat (rw[Heap.upd_ne _ _ (by omega)])) (rg_ok _ _)
theorem c_tick (r:Rg) (H:Heap) (n:Nat) (K:AV→Heap→Nat→Prop) (h:K (.ag (tickR r).cells) H n):ACalls Tryz.prog 18 [.ag r.cells] H n K:=by
  refine ACalls.of_awp Tryz.func18 rfl (by decide +kernel) (show 1≤13 by decide) (by simp) fun wf=>?_
  refine awp_ev dr0 (by decide +kernel) ?_
  simp only[go_sem,Tryz.f18,Rg.cells]
  exact Fin.back wf h (fun i hi=>by repeat (rw[Heap.upd_ne _ _ (by omega)])) (rg_ok _ _)
theorem mW1:wrap64 1=1:=by decide
theorem mW2:wrap64 2=2:=by decide
theorem mW3:wrap64 3=3:=by decide
theorem mA0:and64 0 7=0:=by decide
theorem mD0:wrap64 ((0:Int).tdiv 2)=0:=by decide
theorem mM0:(0:Int).tmod 2=0:=by decide
theorem mA1:and64 1 7=1:=by decide
theorem mD1:wrap64 ((1:Int).tdiv 2)=0:=by decide
theorem mM1:(1:Int).tmod 2=1:=by decide
theorem mA2:and64 2 7=2:=by decide
theorem mD2:wrap64 ((2:Int).tdiv 2)=1:=by decide
theorem mM2:(2:Int).tmod 2=0:=by decide
theorem mA3:and64 3 7=3:=by decide
theorem mD3:wrap64 ((3:Int).tdiv 2)=1:=by decide
theorem mM3:(3:Int).tmod 2=1:=by decide
theorem mA4:and64 4 7=4:=by decide
theorem mD4:wrap64 ((4:Int).tdiv 2)=2:=by decide
theorem mM4:(4:Int).tmod 2=0:=by decide
theorem mA5:and64 5 7=5:=by decide
theorem mD5:wrap64 ((5:Int).tdiv 2)=2:=by decide
theorem mM5:(5:Int).tmod 2=1:=by decide
theorem mA6:and64 6 7=6:=by decide
theorem mD6:wrap64 ((6:Int).tdiv 2)=3:=by decide
theorem mM6:(6:Int).tmod 2=0:=by decide
theorem mA7:and64 7 7=7:=by decide
theorem mD7:wrap64 ((7:Int).tdiv 2)=3:=by decide
theorem mM7:(7:Int).tmod 2=1:=by decide
theorem c_met (f:BitVec 8) (m:Nat) (hm:m<8) (H:Heap) (n:Nat) (K:AV→Heap→Nat→Prop) (h:K (.bo (metR f m)) H n):ACalls Tryz.prog 116 [.u8 f,.i64 m] H n K:=by
  refine ACalls.of_awp Tryz.func116 rfl (by decide +kernel) (show 2≤21 by decide) (by simp) fun wf=>?_
  refine awp_ev dr0 (by decide +kernel) ?_
  unfold metR flagOf at h
  obtain rfl | rfl | rfl | rfl | rfl | rfl | rfl | rfl:m=0∨m=1∨m=2∨m=3∨m=4∨m=5∨m=6∨m=7:=by omega
  all_goals simp +decide only[if_true,if_false] at h
  all_goals simp only[go_sem,Tryz.f116,mW1,mW2,mW3,mA0,mD0,mM0,mA1,mD1,mM1,mA2,mD2,mM2,mA3,mD3,mM3,mA4,mD4,mM4,mA5,mD5,mM5,mA6,mD6,mM6,mA7,mD7,mM7]
  all_goals exact Fin.back wf h (fun i hi=>by repeat (rw[Heap.upd_ne _ _ (by omega)])) rfl
end Go.Proofs.Joy
namespace Go.Proofs.Joy
open Go.Ab Go.Proofs
set_option maxHeartbeats 4000000
set_option maxRecDepth 20000
structure SwS where
  j:Nat
def swZ:List AV:=[.u8 0#8,.u8 0#8,.u8 0#8,.u8 0#8,.u8 0#8,.u8 0#8,.u8 0#8,.u8 0#8,.u8 0#8,.u8 0#8,.u8 0#8,.u8 0#8,.u8 0#8,.u8 0#8,.u8 0#8,.u8 0#8,.u16 0#16,.u16 0#16,.u16 0#16,.u16 0#16,.u16 0#16,.u8 0#8,.u8 0#8,.u8 0#8,.u8 0#8,.bo false,.bo false,.bo false,.bo false]
def swP (n:Nat):List AV:=[.pt n 0,.pt n 1,.pt n 2,.pt n 3,.pt n 4,.pt n 5,.pt n 6,.pt n 7]
theorem rg_ok' (r:Rg) (n:Nat):∀v∈r.cells,v.ok n=true:=cells_ok ⟨r,0#8⟩ n
theorem swW1:wrap64 1=1:=by decide
theorem swW2:wrap64 2=2:=by decide
theorem swW3:wrap64 3=3:=by decide
theorem swW4:wrap64 4=4:=by decide
theorem swW5:wrap64 5=5:=by decide
theorem swW6:wrap64 6=6:=by decide
theorem swW7:wrap64 7=7:=by decide
theorem swW8:wrap64 8=8:=by decide
theorem swTF:(true==false)=false:=rfl
theorem swFT:(false==true)=false:=rfl
theorem c_swap (r:Rg) (all:Bool) (H:Heap) (n:Nat) (K:AV→Heap→Nat→Prop) (h:K (.ag (swapR r all).cells) H n):ACalls Tryz.prog 166 [.ag r.cells,.bo all] H n K:=by
  refine ACalls.of_awp Tryz.func166 rfl (by decide +kernel) (show 2≤40 by decide) (by simp) fun wf=>?_
  rw[← swapTo_all] at h
  refine awp_step dr166 (by decide +kernel) ?_
  simp only[go_sem,Tryz.f166,Rg.cells]
  refine awp_step dr166 (by decide +kernel) ?_
  simp only[go_sem]
  refine awp_seqF (S:=SwS) (fun _=>[(2,.pt n 0),(4,.pt (n+1) 0)]) (fun _=>((H.upd n (some ⟨(swapTo r all 8).cells,25,false⟩)).upd (n+1) (some ⟨swZ,25,false⟩)).upd (n+2) (some ⟨swP n,176,false⟩)) (fun _=>n+3) (fun _=>True) (fun _ _=>⟨Heap.wf_upd (Heap.wf_upd (Heap.wf_upd wf (rg_ok' _ _)) (by simp[swZ,AV.ok])) (by simp[swP,AV.ok]; omega),Env.okAt_of2 (by simp[AV.ok])⟩) ?_ ?_
  · refine awp_step dr166 (by decide +kernel) ?_
    simp only[go_sem]
    refine awp_block ?_
    refine awp_loopF (S:=SwS) (fun s=>[(1,.bo all),(2,.pt n 0),(4,.pt (n+1) 0),(17,.ag (swP n)),(18,.i64 s.j)]) (fun s=>((H.upd n (some ⟨(swapTo r all s.j).cells,25,false⟩)).upd (n+1) (some ⟨swZ,25,false⟩)).upd (n+2) (some ⟨swP n,176,false⟩)) (fun _=>n+3) (fun s=>s.j≤8) (fun s=>8-s.j)
      (fun s _=>⟨Heap.wf_upd (Heap.wf_upd (Heap.wf_upd wf (rg_ok' _ _)) (by simp[swZ,AV.ok])) (by simp[swP,AV.ok]; omega),Env.okAt_of2 (by simp[swP,AV.ok,AV.oks,AV.one])⟩) ?_ ⟨0⟩ (Nat.zero_le _) (by repeat (first | exact Env.le_nil _ | refine Env.le_cons rfl ?_)) (fun _ _=>rfl) rfl
    rintro⟨j⟩ hj
    simp only at hj ⊢
    refine awp_step dr0 (by decide +kernel) ?_
    simp only[go_sem]
    refine awp_step dr0 (by decide +kernel) ?_
    simp only[go_sem]
    refine⟨fun hlt=>?_,fun hlt=>?_⟩
    · have hj8:j<8:=by omega
      simp only[swapTo]
      generalize hq:swapTo r all j=q
      have key:∀(A B Y W:Option Blk),(((H.upd n A).upd (n+1) Y).upd (n+2) W).upd n B=((H.upd n B).upd (n+1) Y).upd (n+2) W:=fun A B Y W=>by
        rw[Heap.upd_swap _ _ _ (show n+2≠n by omega),Heap.upd_swap _ _ _ (show n+1≠n by omega),Heap.upd_upd]
      obtain rfl | rfl | rfl | rfl | rfl | rfl | rfl | rfl:j=0∨j=1∨j=2∨j=3∨j=4∨j=5∨j=6∨j=7:=by omega
      all_goals cases all
      · refine awp_ev dr166 (by decide +kernel) ?_
        simp only[go_sem,Rg.cells,swP,decide_true,decide_false,swTF,swFT,swW1]
        exact Ends.mk (⟨1⟩:SwS) ⟨by simp only; omega,by simp only; omega⟩ (by repeat (first | exact Env.le_nil _ | refine Env.le_cons rfl ?_)) (fun i _=>by rw[key]; have e1:swapTo r false 1=swap1 q 0:=(by rw[← hq]; rfl); simp only[e1]; try rfl) (Nat.le_refl _) (Nat.le_refl _)
      · refine awp_ev dr166 (by decide +kernel) ?_
        simp only[go_sem,Rg.cells,swP,decide_true,decide_false,swTF,swFT,swW1]
        exact Ends.mk (⟨1⟩:SwS) ⟨by simp only; omega,by simp only; omega⟩ (by repeat (first | exact Env.le_nil _ | refine Env.le_cons rfl ?_)) (fun i _=>by have e1:swapTo r true 1=q:=(by rw[← hq]; rfl); simp only[e1]; try rfl) (Nat.le_refl _) (Nat.le_refl _)
      · refine awp_ev dr166 (by decide +kernel) ?_
        simp only[go_sem,Rg.cells,swP,decide_true,decide_false,swTF,swFT,swW2]
        exact Ends.mk (⟨2⟩:SwS) ⟨by simp only; omega,by simp only; omega⟩ (by repeat (first | exact Env.le_nil _ | refine Env.le_cons rfl ?_)) (fun i _=>by rw[key]; have e1:swapTo r false 2=swap1 q 1:=(by rw[← hq]; rfl); simp only[e1]; try rfl) (Nat.le_refl _) (Nat.le_refl _)
      · refine awp_ev dr166 (by decide +kernel) ?_
        simp only[go_sem,Rg.cells,swP,decide_true,decide_false,swTF,swFT,swW2]
        exact Ends.mk (⟨2⟩:SwS) ⟨by simp only; omega,by simp only; omega⟩ (by repeat (first | exact Env.le_nil _ | refine Env.le_cons rfl ?_)) (fun i _=>by have e1:swapTo r true 2=q:=(by rw[← hq]; rfl); simp only[e1]; try rfl) (Nat.le_refl _) (Nat.le_refl _)
      · refine awp_ev dr166 (by decide +kernel) ?_
        simp only[go_sem,Rg.cells,swP,decide_true,decide_false,swTF,swFT,swW3]
        exact Ends.mk (⟨3⟩:SwS) ⟨by simp only; omega,by simp only; omega⟩ (by repeat (first | exact Env.le_nil _ | refine Env.le_cons rfl ?_)) (fun i _=>by have e1:swapTo r false 3=q:=(by rw[← hq]; rfl); simp only[e1]; try rfl) (Nat.le_refl _) (Nat.le_refl _)
      · refine awp_ev dr166 (by decide +kernel) ?_
        simp only[go_sem,Rg.cells,swP,decide_true,decide_false,swTF,swFT,swW3]
        exact Ends.mk (⟨3⟩:SwS) ⟨by simp only; omega,by simp only; omega⟩ (by repeat (first | exact Env.le_nil _ | refine Env.le_cons rfl ?_)) (fun i _=>by rw[key]; have e1:swapTo r true 3=swap1 q 2:=(by rw[← hq]; rfl); simp only[e1]; try rfl) (Nat.le_refl _) (Nat.le_refl _)
      · refine awp_ev dr166 (by decide +kernel) ?_
        simp only[go_sem,Rg.cells,swP,decide_true,decide_false,swTF,swFT,swW4]
        exact Ends.mk (⟨4⟩:SwS) ⟨by simp only; omega,by simp only; omega⟩ (by repeat (first | exact Env.le_nil _ | refine Env.le_cons rfl ?_)) (fun i _=>by have e1:swapTo r false 4=q:=(by rw[← hq]; rfl); simp only[e1]; try rfl) (Nat.le_refl _) (Nat.le_refl _)
      · refine awp_ev dr166 (by decide +kernel) ?_
        simp only[go_sem,Rg.cells,swP,decide_true,decide_false,swTF,swFT,swW4]
        exact Ends.mk (⟨4⟩:SwS) ⟨by simp only; omega,by simp only; omega⟩ (by repeat (first | exact Env.le_nil _ | refine Env.le_cons rfl ?_)) (fun i _=>by rw[key]; have e1:swapTo r true 4=swap1 q 3:=(by rw[← hq]; rfl); simp only[e1]; try rfl) (Nat.le_refl _) (Nat.le_refl _)
      · refine awp_ev dr166 (by decide +kernel) ?_
        simp only[go_sem,Rg.cells,swP,decide_true,decide_false,swTF,swFT,swW5]
        exact Ends.mk (⟨5⟩:SwS) ⟨by simp only; omega,by simp only; omega⟩ (by repeat (first | exact Env.le_nil _ | refine Env.le_cons rfl ?_)) (fun i _=>by have e1:swapTo r false 5=q:=(by rw[← hq]; rfl); simp only[e1]; try rfl) (Nat.le_refl _) (Nat.le_refl _)
      · refine awp_ev dr166 (by decide +kernel) ?_
        simp only[go_sem,Rg.cells,swP,decide_true,decide_false,swTF,swFT,swW5]
        exact Ends.mk (⟨5⟩:SwS) ⟨by simp only; omega,by simp only; omega⟩ (by repeat (first | exact Env.le_nil _ | refine Env.le_cons rfl ?_)) (fun i _=>by rw[key]; have e1:swapTo r true 5=swap1 q 4:=(by rw[← hq]; rfl); simp only[e1]; try rfl) (Nat.le_refl _) (Nat.le_refl _)
      · refine awp_ev dr166 (by decide +kernel) ?_
        simp only[go_sem,Rg.cells,swP,decide_true,decide_false,swTF,swFT,swW6]
        exact Ends.mk (⟨6⟩:SwS) ⟨by simp only; omega,by simp only; omega⟩ (by repeat (first | exact Env.le_nil _ | refine Env.le_cons rfl ?_)) (fun i _=>by have e1:swapTo r false 6=q:=(by rw[← hq]; rfl); simp only[e1]; try rfl) (Nat.le_refl _) (Nat.le_refl _)
      · refine awp_ev dr166 (by decide +kernel) ?_
        simp only[go_sem,Rg.cells,swP,decide_true,decide_false,swTF,swFT,swW6]
        exact Ends.mk (⟨6⟩:SwS) ⟨by simp only; omega,by simp only; omega⟩ (by repeat (first | exact Env.le_nil _ | refine Env.le_cons rfl ?_)) (fun i _=>by rw[key]; have e1:swapTo r true 6=swap1 q 5:=(by rw[← hq]; rfl); simp only[e1]; try rfl) (Nat.le_refl _) (Nat.le_refl _)
      · refine awp_ev dr166 (by decide +kernel) ?_
        simp only[go_sem,Rg.cells,swP,decide_true,decide_false,swTF,swFT,swW7]
        exact Ends.mk (⟨7⟩:SwS) ⟨by simp only; omega,by simp only; omega⟩ (by repeat (first | exact Env.le_nil _ | refine Env.le_cons rfl ?_)) (fun i _=>by have e1:swapTo r false 7=q:=(by rw[← hq]; rfl); simp only[e1]; try rfl) (Nat.le_refl _) (Nat.le_refl _)
      · refine awp_ev dr166 (by decide +kernel) ?_
        simp only[go_sem,Rg.cells,swP,decide_true,decide_false,swTF,swFT,swW7]
        exact Ends.mk (⟨7⟩:SwS) ⟨by simp only; omega,by simp only; omega⟩ (by repeat (first | exact Env.le_nil _ | refine Env.le_cons rfl ?_)) (fun i _=>by rw[key]; have e1:swapTo r true 7=swap1 q 6:=(by rw[← hq]; rfl); simp only[e1]; try rfl) (Nat.le_refl _) (Nat.le_refl _)
      · refine awp_ev dr166 (by decide +kernel) ?_
        simp only[go_sem,Rg.cells,swP,decide_true,decide_false,swTF,swFT,swW8]
        exact Ends.mk (⟨8⟩:SwS) ⟨by simp only; omega,by simp only; omega⟩ (by repeat (first | exact Env.le_nil _ | refine Env.le_cons rfl ?_)) (fun i _=>by have e1:swapTo r false 8=q:=(by rw[← hq]; rfl); simp only[e1]; try rfl) (Nat.le_refl _) (Nat.le_refl _)
      · refine awp_ev dr166 (by decide +kernel) ?_
        simp only[go_sem,Rg.cells,swP,decide_true,decide_false,swTF,swFT,swW8]
        exact Ends.mk (⟨8⟩:SwS) ⟨by simp only; omega,by simp only; omega⟩ (by repeat (first | exact Env.le_nil _ | refine Env.le_cons rfl ?_)) (fun i _=>by rw[key]; have e1:swapTo r true 8=swap1 q 7:=(by rw[← hq]; rfl); simp only[e1]; try rfl) (Nat.le_refl _) (Nat.le_refl _)
    · have hj8:j=8:=by omega
      subst hj8
      exact Ends.mk (⟨0⟩:SwS) trivial (by repeat (first | exact Env.le_nil _ | refine Env.le_cons rfl ?_)) (fun _ _=>rfl) (Nat.le_refl _) (Nat.le_refl _)
  rintro- -
  generalize swapTo r all 8=q at h ⊢
  refine awp_ev dr0 (by decide +kernel) ?_
  simp only[go_sem,Rg.cells,swZ]
  exact Fin.back wf h (fun i hi=>by repeat (rw[Heap.upd_ne _ _ (by omega)])) (rg_ok _ _)
end Go.Proofs.Joy
