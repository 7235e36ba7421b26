import Derived.Test.YthaiinlfnommnaaGreatDoorDbM1
import Derived.Test.YthaiinlfnommnaaGreatDoorProg
import Derived.Test.YthaiinlfnommnaaGreatDoorChecked
import Derived.WalkKit
import Derived.LaidEql
import Derived.Stop.Asserts
import Derived.RowKitTokens
namespace Go.Proofs.YthaiinlfnommnaaGreatDoor
open Go Go.Dn Go.Rl Go.Proofs
attribute [local irreducible] bf vc
set_option maxRecDepth 20000
def SX:List (Nat×List (Nat×List (Nat×Option Nat))):=[
 (4,[(9,[(3,none),(4,none),(6,none),(9,none)]),(10002,[(3,none)]),(10001,[(2,none)])]),
 (5,[(11,[(5,none),(6,none),(8,none),(10,none),(11,none),(12,none),(13,none)]),(12002,[(5,none),(11,none),(12,none)]),(12001,[(4,none)])]),
 (7,[(17,[(1,none),(2,none),(5,none),(6,none),(8,none),(10,none),(11,none),(12,none)]),(18004,[(1,none),(2,none),(5,none),(6,none),(8,none)]),(18001,[(4,none)]),(8,[(1,none),(2,none),(5,none),(6,none),(8,none)]),(9002,[(1,none),(2,none),(5,none),(6,none)]),(9001,[(4,none)])]),
 (8,[(18,[(1,none),(3,none),(4,none),(6,none),(7,none),(8,none),(9,none),(10,none),(11,none)]),(19006,[(1,none),(3,none),(4,none),(6,none),(7,none),(8,none),(9,none)]),(19001,[(2,none)]),(14,[(1,none),(3,none),(4,none),(6,none),(7,none),(8,none),(9,none)]),(15004,[(1,none),(3,none),(4,none),(6,none),(7,none)]),(15001,[(2,none)]),(9,[(1,none),(3,none),(4,none),(6,some 3),(7,none)]),(10002,[(1,none),(3,none),(6,none)]),(10001,[(2,none)])]),
 (9,[(23,[(3,none),(4,none),(6,none),(11,none)]),(24008,[(3,none),(4,none),(6,none)]),(24001,[(2,none)]),(16,[(3,none),(4,none),(6,none),(7,none),(8,none),(9,none),(10,none)]),(17006,[(3,none),(4,none),(6,none),(7,none),(8,none)]),(17001,[(2,none)]),(11,[(3,none),(4,none),(6,none),(7,none)]),(12004,[(3,none),(4,none),(6,none)]),(12001,[(2,none)]),(8,[(3,none),(4,none),(6,none)]),(9002,[(3,none)]),(9001,[(2,none)])]),
 (11,[(22,[(1,none),(8,none),(9,none),(10,none)]),(23008,[(1,none),(8,none),(9,none)]),(23001,[(4,none)]),(16,[(1,none),(8,none),(9,none)]),(17006,[]),(17001,[(4,none)]),(8,[(1,none),(2,none),(5,none),(6,none),(7,none)]),(9004,[(1,none),(2,none),(5,none),(6,none)]),(4,[(1,none),(2,none),(5,none)]),(5002,[(1,none)]),(5001,[(4,none)])]),
 (12,[(6,[(1,none),(7,some 41),(19,none),(20,none),(21,none)]),(7002,[(7,none)])]),
 (13,[(11,[(1,none),(4,none),(7,none),(8,none),(9,none),(10,none),(11,none)]),(12004,[(1,none),(4,none),(7,none),(8,none),(9,none),(10,none)]),(7,[(1,none),(4,none),(7,none),(8,some 41),(9,none)]),(8002,[(8,none)])]),
 (14,[(4,[(0,none),(1,none),(5,none)]),(5002,[]),(5001,[(4,none)])]),
 (15,[(15,[(7,none),(10,none),(11,none),(13,none),(49,none),(50,none),(51,none)]),(16004,[(7,none),(10,none),(11,none),(13,none)]),(11,[(7,none),(10,some 38),(11,none),(12,none)]),(12002,[(10,none)])]),
 (16,[(4,[(0,none),(1,none),(5,none)]),(5002,[]),(5001,[(4,none)])]),
 (19,[(3,[(0,none),(3,none),(5,none),(6,none)]),(4002,[(5,none)])]),
 (20,[(2,[(0,none),(1,none),(5,none)]),(3002,[]),(3001,[(4,none)])]),
 (24,[(3,[(3,some 3),(7,none),(8,none),(9,none)]),(4002,[(3,none)])]),
 (26,[(8,[(1,none),(3,none),(5,none)]),(9004,[(1,none),(3,none)]),(3,[(1,none),(3,none),(4,none)]),(4002,[(1,none),(3,none)]),(4001,[(2,none)])]),
 (27,[(2,[(0,none),(3,none)]),(3002,[]),(3001,[(2,none)])]),
 (28,[(3,[(1,none),(2,none),(4,none),(5,none),(17,none),(18,none),(19,none)]),(4002,[(4,none),(5,none)])]),
 (29,[(25,[(7,none),(14,none),(15,none),(18,none),(19,none)]),(26006,[(7,none),(14,none),(15,none),(18,none)]),(19,[(7,none),(14,some 38),(15,none),(16,none)]),(20004,[(14,none)]),(6,[(1,none),(7,none),(8,none)]),(7002,[(7,none)]),(7001,[(2,none),(3,none),(4,none)])]),
 (30,[(19,[(3,none),(4,none),(8,none),(9,none),(10,none)]),(20010,[(3,none),(4,none),(8,none),(9,none)]),(16,[(3,none),(4,none),(8,none),(9,none)]),(17008,[(3,none),(4,none),(8,none)]),(13,[(3,none),(4,none),(8,none)]),(14006,[(4,none)]),(8,[(1,none),(3,none),(4,none),(5,none),(6,none),(7,none)]),(9004,[(1,none),(3,none),(4,none),(5,none),(6,none)]),(4,[(1,none),(3,none),(4,some 59),(5,none)]),(5002,[(3,none),(4,none)])]),
 (31,[(2,[(0,none),(1,none),(6,none)]),(3002,[]),(3001,[(4,none),(5,none)])]),
 (32,[(5,[(2,none),(3,none),(4,none),(7,none),(8,none),(10,none)]),(6002,[(4,none),(7,none)])]),
 (33,[(3,[(1,none),(3,none),(5,none),(7,none),(9,none)]),(4002,[]),(4001,[(6,none)])]),
 (34,[(3,[(1,none),(2,none),(5,some 45),(6,none)]),(4002,[(5,none)])]),
 (35,[(4,[(0,none),(1,none),(5,none)]),(5002,[]),(5001,[(4,none)])]),
 (36,[(5,[(20,none),(21,none),(22,none)]),(6002,[]),(6001,[(2,none),(3,none)])]),
 (37,[(8,[(3,none),(45,none),(46,none)]),(9004,[(3,none)])]),
 (38,[(2,[(0,none),(3,none),(11,none),(12,none),(13,none)]),(3002,[]),(3001,[(4,none),(5,none)])]),
 (39,[(6,[(0,none),(1,none),(5,none),(11,none),(12,none),(25,none)]),(7004,[(5,none)]),(7003,[(0,none),(1,none),(11,none),(12,none)]),(2,[(0,none),(1,none),(11,none),(12,none)]),(3002,[]),(3001,[(4,none)])]),
 (40,[(3,[(0,none),(1,none),(5,some 3),(11,none),(12,none)]),(4002,[(5,none)])]),
 (41,[(5,[(2,none),(3,none),(4,none),(7,none),(35,none),(36,none),(37,none)]),(6002,[(4,none),(7,none)])]),
 (45,[(5,[(2,none),(3,none),(6,none)]),(6002,[]),(6001,[(4,none)])]),
 (48,[(9,[(0,none),(1,none),(5,none),(6,none)]),(10004,[(0,none),(1,none),(5,none)]),(10001,[(4,none)]),(4,[(0,none),(1,none),(5,none)]),(5002,[]),(5001,[(4,none)])]),
 (49,[(5,[(1,none),(6,none)]),(6002,[]),(6001,[(2,none),(3,none)])]),
 (52,[(9,[(0,none),(3,none),(4,none),(5,none)]),(10004,[(0,none),(3,none)]),(4,[(0,none),(3,none)]),(5002,[(0,none)]),(5001,[(2,none)])]),
 (54,[(2,[(0,none),(3,none)]),(3002,[]),(3001,[(2,none)])]),
 (55,[(3,[(1,none),(2,none),(5,none)]),(4002,[(1,none)])]),
 (60,[(3,[(1,none),(3,none),(5,none),(7,none),(9,none)]),(4002,[]),(4001,[(6,none)])]),
 (61,[(5,[(1,none),(4,none),(6,none)]),(6002,[]),(6001,[(2,none),(3,none)])]),
 (62,[(2,[(0,none),(1,none),(2,none),(7,none)]),(3002,[]),(3001,[(6,none)])]),
 (63,[(3,[(0,none),(1,none),(5,some 3),(6,none)]),(4002,[(5,none)])]),
 (64,[(2,[(1,none),(2,none),(3,none),(7,none)]),(3002,[]),(3001,[(6,none)])]),
 (66,[(10,[(9,none),(11,some 9),(12,none),(13,none)]),(11002,[(11,none)])]),
 (69,[(11,[(1,none),(38,none),(39,none),(40,none)]),(12004,[]),(12001,[(2,none),(3,none)]),(4,[(1,none),(16,none),(17,none),(18,none)]),(5002,[(1,none)]),(5001,[(2,none),(3,none)])]),
 (72,[(3,[(0,none),(5,none),(6,some 3)]),(4002,[(5,none)])]),
 (76,[(3,[(3,some 56),(6,none),(7,none),(8,none)]),(4002,[(3,none)])]),
 (77,[(8,[(2,none),(8,none),(32,none),(33,none),(34,none)]),(9003,[(2,none),(8,none)])]),
 (81,[(4,[(0,none),(1,none),(5,none)]),(5002,[]),(5001,[(4,none)])]),
 (85,[(4,[(2,none),(18,none),(19,none),(20,none)]),(5002,[]),(5001,[(4,none)])]),
 (87,[(4,[(2,none),(3,none),(6,some 96),(26,none),(27,none),(28,none)]),(5002,[(3,none),(6,none)])]),
 (89,[(11,[(1,none),(8,none)]),(12004,[]),(12001,[(2,none),(3,none)]),(5,[(1,none),(5,none)]),(6002,[(1,none)]),(6001,[(2,none),(3,none)])]),
 (90,[(2,[(0,none),(1,none),(2,none),(3,none),(8,none),(9,none)]),(3001,[])]),
 (93,[(4,[(1,none),(2,none),(5,none)]),(5002,[(1,none)])]),
 (94,[(5,[(1,none),(2,none),(5,none)]),(6002,[(1,none)])]),
 (95,[(2,[(0,none),(1,none),(7,none),(8,none)]),(3002,[]),(3001,[(4,none)])]),
 (97,[(2,[(0,none),(1,none),(7,none),(8,none)]),(3002,[]),(3001,[(4,none)])]),
 (98,[(1,[(0,none),(1,none),(2,none),(7,none),(8,none),(9,none)]),(2002,[]),(2001,[])]),
 (99,[(4,[(1,none),(2,none),(7,none),(8,some 3),(9,some 1000000009)]),(5002,[(8,none),(9,none)]),(5001,[(4,none),(5,none),(6,none)])]),
 (101,[(2,[(1,none),(2,none),(5,none)]),(3002,[]),(3001,[(4,none)])]),
 (102,[(11,[(1,none),(6,none)]),(12004,[]),(12001,[(2,none)]),(5,[(1,none),(4,none)]),(6002,[(1,none)]),(6001,[(2,none)])]),
 (103,[(2,[(0,none),(1,none),(5,none)]),(3002,[]),(3001,[(4,none)])]),
 (104,[(3,[(1,none),(3,some 1000000009),(4,none)]),(4002,[(3,none)])]),
 (105,[(6,[(1,none),(4,some 1000000009),(5,none)]),(7002,[(4,none)])]),
 (108,[(2,[(1,none),(3,none),(5,none),(6,none),(7,none)]),(3002,[(5,none),(6,none)])]),
 (110,[(11,[(6,none),(8,some 3),(36,none),(37,none),(38,none)]),(12004,[(8,none)]),(12001,[(4,none),(5,none)]),(4,[(3,none),(6,none)]),(5002,[(3,none),(6,none)]),(5001,[(4,none),(5,none)])]),
 (114,[(5,[(0,none),(1,none),(5,none),(12,none),(13,none),(14,none),(28,none),(29,none),(30,none)]),(6004,[(0,none),(1,none),(12,none),(13,none),(14,none)]),(6001,[]),(1,[(0,none),(1,none),(12,none),(13,none),(14,none)]),(2002,[]),(2001,[])]),
 (121,[(1,[(0,none),(6,none),(7,none),(8,none)]),(2002,[])]),
 (123,[(5,[(0,none),(1,none),(5,none),(6,none)]),(6002,[(0,none),(5,none)])]),
 (128,[(2,[(0,none),(1,none),(7,none),(8,none)]),(3002,[]),(3001,[(4,none)])]),
 (129,[(4,[(2,none),(3,none),(5,none)]),(5002,[]),(5001,[(4,none)])]),
 (130,[(4,[(0,none),(1,none),(5,none)]),(5002,[]),(5001,[(4,none)])]),
 (133,[(4,[(1,none),(2,none),(15,none),(16,none),(17,none)]),(5002,[]),(5001,[(6,none)])]),
 (135,[(4,[(1,none),(2,none),(15,none),(16,none),(17,none)]),(5002,[]),(5001,[(6,none)])]),
 (137,[(7,[(1,none),(2,none),(9,none),(10,none),(11,none),(21,none),(22,none),(23,none)]),(8004,[(1,none),(2,none),(9,none),(10,none),(11,none)]),(8001,[(4,none)]),(2,[(1,none),(2,none),(9,none),(10,none),(11,none)]),(3002,[(1,none)]),(3001,[(4,none)])]),
 (147,[(3,[(3,some 75),(6,none),(7,none),(8,none)]),(4002,[(3,none)])]),
 (148,[(9,[(0,none),(1,none),(5,none),(6,none),(7,none)]),(10004,[(0,none),(5,none)]),(4,[(0,none),(1,none),(5,none)]),(5002,[(0,none)]),(5001,[(4,none)])]),
 (150,[(10,[(1,none),(5,none)]),(11004,[]),(11001,[(2,none)]),(4,[(1,none),(3,none)]),(5002,[(1,none)]),(5001,[(2,none)])]),
 (151,[(23,[(0,none),(3,none),(9,none),(10,none),(14,none)]),(24008,[(0,none),(3,none),(9,none),(10,none)]),(24001,[(4,none),(5,none)]),(18,[(0,none),(3,none),(9,none),(10,none),(11,none),(12,none)]),(19006,[(0,none),(3,none),(9,none),(10,none),(11,none)]),(15,[(0,none),(3,none),(9,none),(10,none),(11,none)]),(16004,[(0,none),(3,none),(9,none),(10,none)]),(6,[(0,none),(3,none),(7,none),(8,none)]),(7002,[(0,none),(3,none),(7,none)])]),
 (152,[(4,[(0,none),(1,none),(2,none),(6,none),(7,none)]),(5004,[(0,none),(1,none),(2,none),(6,none)]),(1,[(0,none),(1,none),(2,none),(6,none)]),(2002,[])]),
 (153,[(8,[(0,none),(6,none),(7,none),(10,none)]),(9004,[]),(4,[(0,none),(6,none),(7,none),(8,none),(9,none)]),(5002,[(0,none),(6,none),(7,none),(8,none)])]),
 (154,[(5,[(0,none),(1,none),(6,none),(7,none),(8,none),(9,none)]),(6002,[])]),
 (156,[(2,[(0,none),(6,none),(7,none)]),(3002,[])]),
 (157,[(20,[(0,none),(1,none),(2,none),(7,none),(8,none),(10,none)]),(21008,[(0,none),(1,none),(2,none),(7,none),(8,none)]),(14,[(0,none),(1,none),(2,none),(7,none),(8,none),(9,none)]),(15006,[(0,none),(1,none),(2,none),(7,none),(8,none)]),(5,[(0,none),(1,none),(2,none),(7,none),(8,none)]),(6004,[(0,none),(1,none),(2,none),(7,none),(8,none)]),(3,[(0,none),(1,none),(2,none),(7,none),(8,none)]),(4002,[]),(4001,[(6,none)])]),
 (159,[(5,[(0,none),(1,none),(9,none),(10,none)]),(6006,[(0,none),(1,none),(9,none),(10,none)]),(4004,[(0,none),(1,none),(9,none),(10,none)]),(3,[(0,none),(1,none),(9,none),(10,none)]),(4002,[(9,none)])]),
 (160,[(15,[(0,none),(1,none),(10,none),(11,none)]),(16010,[(0,none),(1,none),(10,none),(11,none)]),(14008,[(0,none),(1,none),(10,none),(11,none)]),(13,[(0,none),(1,none),(10,none),(11,none)]),(14006,[(0,none),(1,none),(11,none)]),(5,[(0,none),(1,none),(10,none),(11,none)]),(6004,[(0,none),(1,none),(10,none),(11,none)]),(3,[(0,none),(1,none),(10,none),(11,none)]),(4002,[(0,none),(1,none),(10,none),(11,none)])]),
 (163,[(5,[(1,none),(2,none),(3,none),(7,none),(8,none)]),(6004,[(1,none),(2,none),(3,none),(7,none)]),(6001,[(6,none)]),(2,[(1,none),(2,none),(3,none),(7,none)]),(3002,[]),(3001,[(6,none)])]),
 (164,[(3,[(1,none),(5,some 9),(6,none)]),(4002,[(5,none)])]),
 (166,[(5,[(1,none),(3,some 1000000009),(4,none)]),(6002,[(3,none)])]),
 (168,[(5,[(1,none),(4,none)]),(6002,[]),(6001,[(2,none)])]),
 (171,[(3,[(1,none),(5,some 9),(6,none)]),(4002,[(5,none)])]),
 (173,[(2,[(0,none),(1,none),(5,none)]),(3002,[]),(3001,[(4,none)])]),
 (176,[(4,[(1,none),(31,none),(32,none),(33,none)]),(5002,[]),(5001,[(2,none)])]),
 (178,[(3,[(0,none),(5,none),(14,none),(15,none),(16,none)]),(4002,[(5,none)]),(4001,[(4,none)])]),
 (182,[(3,[(3,some 9),(6,none),(7,none),(8,none)]),(4002,[(3,none)])]),
 (183,[(12,[(6,none),(26,none),(27,none),(28,none)]),(13004,[(6,none)]),(3,[(0,none),(3,none),(9,none),(10,none),(11,none)]),(4002,[(0,none),(3,none)])]),
 (185,[(17,[(1,none),(2,none),(43,none),(44,none),(45,none)]),(18005,[]),(18001,[(6,none)]),(1,[(0,none),(1,none),(2,none)]),(2001,[(6,none)])]),
 (186,[(3,[(0,none),(1,none),(3,none),(4,none),(13,none),(14,none)]),(4002,[]),(4001,[])]),
 (187,[(3,[(1,none),(2,none),(3,none),(7,none),(11,none),(12,none),(13,none)]),(4002,[(7,none)]),(4001,[(6,none)])]),
 (188,[(4,[(1,none),(2,none),(5,none),(17,none),(18,none),(19,none)]),(5002,[(1,none),(2,none),(5,none)])]),
 (190,[(2,[(0,none),(1,none),(7,none),(8,none)]),(3002,[]),(3001,[(4,none)])]),
 (194,[(2,[(0,none),(1,none),(7,none),(8,none)]),(3002,[]),(3001,[(4,none)])]),
 (195,[(4,[(0,none),(1,none),(12,none),(13,none)]),(5002,[]),(5001,[(4,none)])]),
 (196,[(4,[(0,none),(1,none),(12,none),(13,none)]),(5002,[]),(5001,[(4,none)])]),
 (198,[(2,[(0,none),(3,none)]),(3002,[]),(3001,[(2,none)])]),
 (199,[(17,[(0,none),(3,none),(5,none),(10,none),(11,none),(44,none),(45,none),(46,none),(72,none),(73,none),(74,none)]),(18008,[(0,none),(3,none),(5,none),(11,none),(44,none),(45,none),(46,none)]),(18005,[(0,none),(3,none),(5,none),(44,none),(45,none),(46,none)]),(12,[(0,none),(3,none),(5,none),(10,none),(11,none),(44,none),(45,none),(46,none),(52,none),(53,none),(54,none)]),(13006,[(0,none),(3,none),(5,none),(10,none),(11,none),(44,none),(45,none),(46,none)]),(8,[(0,none),(3,none),(5,none),(44,none),(45,none),(46,none)]),(9004,[]),(9001,[]),(3,[(0,none),(1,none),(2,none),(3,none),(5,none),(6,some 96),(25,none),(26,none),(27,none)]),(4002,[(0,none),(1,none),(2,none),(3,none),(5,none),(6,none)])]),
 (200,[(7,[(1,none),(2,none),(7,none),(8,none),(10,none),(18,none),(19,none),(20,none),(26,none),(27,none),(28,none)]),(8004,[(1,none),(2,none),(7,none),(8,none),(10,none),(18,none),(19,none),(20,none)]),(8003,[(1,none),(2,none),(7,none),(8,none),(18,none),(19,none),(20,none)]),(4,[(1,none),(2,none),(7,none),(8,some 75),(18,none),(19,none),(20,none)]),(5002,[(8,none)])]),
 (203,[(5,[(0,none),(3,none),(4,none)]),(6002,[(3,none)])]),
 (204,[(5,[(0,none),(3,none),(4,none)]),(6002,[(3,none)])]),
 (205,[(9,[(0,none),(1,none),(2,none),(6,none),(7,none),(8,none)]),(10006,[(0,none),(1,none),(2,none),(6,none),(7,none)]),(7,[(0,none),(1,none),(2,none),(6,none)]),(8004,[]),(2,[(0,none),(1,none),(2,none),(6,none),(7,none),(8,none)]),(3002,[(0,none),(1,none),(2,none),(6,none),(7,none)])]),
 (206,[(2,[(0,none),(1,none),(2,none),(11,none),(12,none),(13,none)]),(3002,[(0,none),(1,none)]),(3001,[(6,none)])]),
 (209,[(5,[(1,none),(4,none)]),(6002,[]),(6001,[(2,none)])]),
 (211,[(4,[(0,none),(2,none),(3,none),(5,none),(9,none),(11,none),(12,none)]),(5002,[(11,none)])]),
 (213,[(3,[(0,none),(2,none),(3,none),(5,none),(9,none),(10,none)]),(4002,[(9,none)])]),
 (214,[(1,[(0,none),(2,none),(3,none),(8,none)]),(2002,[]),(2001,[])]),
 (221,[(6,[(5,some 9),(6,none),(7,none),(8,none),(9,none)]),(7002,[(5,none)])]),
 (222,[(4,[(0,none),(3,none)]),(5002,[]),(5001,[(2,none)])]),
 (223,[(8,[(1,none),(2,none),(5,none)]),(9002,[]),(9001,[(4,none)])]),
 (226,[(4,[(18,none)]),(5002,[]),(5001,[(2,none)])]),
 (227,[(7,[(0,none),(5,none),(40,none),(41,none),(42,none)]),(8003,[]),(8001,[(4,none)])]),
 (229,[(7,[(0,none),(57,none),(58,none),(59,none)]),(8004,[]),(8001,[]),(2,[(0,none),(1,none),(25,none),(26,none),(27,none)]),(3002,[(0,none),(1,none)]),(3001,[])]),
 (230,[(4,[(24,none),(25,none),(26,none)]),(5002,[]),(5001,[(2,none)])]),
 (238,[(8,[(2,none),(32,none),(33,none),(34,none)]),(9004,[]),(9001,[]),(3,[(2,none),(3,some 56),(14,none),(15,none),(16,none)]),(4002,[(2,none),(3,none)])]),
 (241,[(1,[(0,none),(6,none),(7,none),(8,none)]),(2002,[]),(2001,[])]),
 (242,[(2,[(0,none),(1,none),(7,none),(8,none)]),(3002,[]),(3001,[(4,none)])]),
 (244,[(4,[(0,none),(1,none),(2,none),(3,none),(8,none),(9,none)]),(5004,[(0,none),(1,none),(2,none),(3,none),(8,none)]),(1,[(0,none),(1,none),(2,none),(3,none),(8,none)]),(2002,[])]),
 (245,[(33,[(0,none),(1,none),(2,none),(3,none),(4,none),(18,none),(19,none),(20,none),(21,none),(22,none)]),(34010,[(0,none),(1,none),(2,none),(3,none),(4,none),(18,none),(19,none),(20,none)]),(21,[(0,none),(14,none),(17,none)]),(22008,[]),(15,[(0,none),(2,none),(4,none),(14,none),(15,none)]),(16006,[(0,none),(2,none),(14,none)]),(9,[(0,none),(10,none),(13,none)]),(10004,[]),(3,[(0,none),(1,none),(4,none),(10,none),(11,none)]),(4002,[(0,none),(1,none),(10,none)])]),
 (248,[(9,[(2,none),(3,none),(4,none),(10,none),(11,none)]),(10002,[(10,none)])]),
 (250,[(3,[(0,none),(2,none),(3,none),(5,none),(9,none),(11,none)]),(4002,[]),(4001,[(8,none)])]),
 (253,[(3,[(1,none),(3,some 1000000009),(4,none)]),(4002,[(3,none)])]),
 (254,[(3,[(1,none),(2,none),(5,some 1000000009),(6,none)]),(4002,[(5,none)])]),
 (258,[(2,[(0,none),(2,none),(4,none),(12,none),(13,none),(14,none)]),(3002,[(0,none),(2,none),(4,none)]),(3001,[(6,none)])]),
 (260,[(10,[(1,none),(49,none),(50,none),(51,none)]),(11003,[]),(11001,[(4,none)])]),
 (261,[(2,[(5,none),(6,none),(7,none)]),(3002,[]),(3001,[(2,none)])]),
 (264,[(3,[(3,some 9),(7,none),(8,none),(9,none)]),(4002,[(3,none)])]),
 (265,[(3,[(2,none),(11,none),(12,none),(13,none)]),(4002,[]),(4001,[])]),
 (266,[(2,[(0,none),(2,none),(4,none),(10,none),(11,none)]),(3002,[(0,none),(2,none),(4,none),(10,none)])]),
 (269,[(1,[(0,none),(1,none),(2,none),(3,none),(10,none)]),(2002,[])])
 ]
def Zn(k:Nat):List (Nat×List (Nat×Option Nat))->List (Nat×Option Nat)
 |[]=>[]
 |(j,l)::r=>bif Nat.beq j k then l else Zn k r
def lk1(f k:Nat):List (Nat×List (Nat×List (Nat×Option Nat)))->List (Nat×Option Nat)
 |[]=>[]
 |(g,l)::r=>bif Nat.beq g f then Zn k l else lk1 f k r
def live(f k:Nat):List (Nat×Option TypeId):=lk1 f k SX
structure Kp where
 tree:Addr
 stuck:Addr
 T1:TypeId
 T2:TypeId
 z1:Nat×Nat
 z2:Nat×Nat
 fK:Addr
 arity:Addr
 type:Addr
 T3:TypeId
 T4:TypeId
 T5:TypeId
 z3:Nat×Nat
 z4:Nat×Nat
 z5:Nat×Nat
 c3:Array Value
 c4:Array Value
 c5:Array Value
 t3:TypeId
 t4:TypeId
 t5:TypeId
 d1:fK≠arity
 d2:fK≠type
 d3:arity≠type
 n3: ∀g,g∈[1,0,3,4,2]->fK.block≠g
 n4: ∀g,g∈[1,0,3,4,2]->arity.block≠g
 n5: ∀g,g∈[1,0,3,4,2]->type.block≠g
def We(κ:Kp):Value:= .iface 306 (.pointer (some κ.tree))
def mc(κ:Kp):Value:= .iface 306 (.pointer (some κ.stuck))
def xI(κ:Kp)(b:Nat):Option Go.Obj:=
 bif Nat.beq b 1 then some (.cells #[.iface 306 (.pointer (some κ.tree))] κ.T1 κ.z1)
 else bif Nat.beq b 0 then some (.cells #[.iface 306 (.pointer (some κ.stuck))] κ.T2 κ.z2)
 else bif Nat.beq b 3 then some (.cells #[.iface 306 (.pointer (some κ.fK))] κ.T3 κ.z3)
 else bif Nat.beq b 4 then some (.cells #[.iface 306 (.pointer (some κ.arity))] κ.T4 κ.z4)
 else bif Nat.beq b 2 then some (.cells #[.iface 306 (.pointer (some κ.type))] κ.T5 κ.z5)
 else bif Nat.beq b κ.fK.block then some (.cells κ.c3 κ.t3 (0,0))
 else bif Nat.beq b κ.arity.block then some (.cells κ.c4 κ.t4 (0,0))
 else bif Nat.beq b κ.type.block then some (.cells κ.c5 κ.t5 (0,0))
 else none
def aB(κ:Kp)(ok:Bool):Value:=bif ok then .nilIface else .iface 306 (.pointer (some κ.tree))
theorem mw(κ:Kp)(b:Bool):aE (aB κ b)=true:=by cases b<;>rfl
theorem qm(κ:Kp)(b:Bool):bR (aB κ b)=b:=by cases b<;>rfl
theorem nN(κ:Kp)(b:Bool):bm (aB κ b)=true:=by cases b<;>rfl
noncomputable abbrev Pr(κ:Kp):Pg:={toProgram:=Tryz.prog,kept:=xI κ}
theorem yI:pX Tryz.prog:=NG (by kernel_rfl)
def Xp:List Nat:=[180,234,190,235,240,191,239,117,237,125,174,95,175,131,194,177,96,79,128,80,71,116,120,192,127,58,59]
def WX:List Nat:=[123,187,163,248,211,212,249]
def RK:List Nat:=[232,226,268,262,263,231,260,230,233,261,111,193,242,119,106,173,16,26,94,93,55,54,999999,999999,999999,255,256,222,169,257,223,168,224,225,170,102,130,103,100,220,176,109,209,150,210,267,250,251,213,179,115,44,73,57,97,999999,999999,999999,999999,92,53]
def QK:List Nat:=[182,264,189,124,110,151]
def VW:List Nat:=[72]
noncomputable def E0(κ:Kp):Env:=((Env.none (Pr κ) live (fun f=>jH f Xp) (fun f=>jH f WX) (fun f=>jH f RK)).jt (fun f=>jH f QK)).iZ (fun f=>jH f VW)
theorem e0(κ:Kp):aD (E0 κ):=((aD.none yI).jt _).iZ _
theorem m0(κ:Kp):aj (E0 κ):=(aj.none.jt _).iZ _
theorem y48(κ:Kp)(op:Int)(K:AV->List Dn.Obj->Prop):(bf (E0 κ) 12 232 [.int op] [] K)=(
 aC (op==(5:Int)) (K (AV.bool true) []) (aC (op==(6:Int)) (K (AV.bool true) []) (K (AV.bool (op==(7:Int))) []))):=by kernel_rfl
def YE:List AV->Option (Bool×AV)
 |[.lit (.int .i64 op)]=>some (true, .bool (kI op))
 |_=>none
theorem p48(κ:Kp):cy (E0 κ) 12 232 YE:=by
 intro args x h
 unfold YE at h
 split at h
 ·rename_i op
  simp only[aa5,ab1,true_and] at h
  subst h
  refine⟨_,rfl,rfl,?_⟩
  rw[y48]
  unfold kI
  by_cases h1:op=5<;>by_cases h2:op=6<;>by_cases h3:op=7<;>simp[af,h1,h2,h3]<;>omega
 ·cases h
noncomputable def NP(κ:Kp):Env:=(E0 κ).aG 232 YE
theorem e48(κ:Kp):aD (NP κ):=(e0 κ).aG (m0 κ) (p48 κ)
theorem Zl(κ:Kp):aj (NP κ):=(m0 κ).aG
theorem x57(κ:Kp)(s:ByteArray)(p:Nat)(I:Nat->S->Prop)(n:Nat)(K:Exit->S->Prop):(vc (NP κ) 12 226 none 0 (ah (Pr κ).toProgram 226 4) (sp 55 [(18, .ptr 0 0 [] 0)] [.dC s p]) (bL (NP κ) 226 4 0 I n K))=(
 letI z2:=∃(e0:Nat),e0<n/\I e0 (sp 55 [(18,AV.ptr 0 0 [] 0)] [Obj.dC s (p+Prod.snd (Utf8.decode s p))])
 letI z3:=Prod.fst (Utf8.decode s p)
 letI z5:=K Exit.ret (sp 55 [(2,AV.bool false)] [])
 letI z1:=aC (!(↑z3:Int)==(95:Int)) (aC ((↑p:Int)==(0:Int)) z5 (aC (decide ((↑z3:Int)<(48:Int))) z5 (aC (decide ((↑z3:Int)>(57:Int)))
  z5 z2))) z2
 letI z4:=aC (decide ((↑z3:Int)>=(65:Int))) (aC (decide ((↑z3:Int)<=(90:Int))) z2 z1) z1
 aC (Nat.blt p (ByteArray.size s)) (aC (decide ((↑z3:Int)>=(97:Int))) (aC (decide ((↑z3:Int)<=(122:Int))) z2 z4) z4) (K (Exit.exit 0) (sp 55 [] []))):=by kernel_rfl
abbrev Rn(a:ByteArray×Nat):S:=sp 55 [(18, .ptr 0 0 [] 0)] [.dC a.1 a.2]
noncomputable def Bq(a:ByteArray×Nat):Out (Exit×S):=
 .aC (nameAt a.1 a.2) (.one (.exit 0,sp 55 [] [])) (.one (.ret,sp 55 [(2, .bool false)] []))
theorem l57(κ:Kp):bk (NP κ) 12 226 4 (aP 0 Rn (fun _=>True) Bq):=by
 refine aL (fun a=>a.1.size - a.2) ?_
 rintro⟨s,p⟩ K - ho
 rw[show(NP κ).P=Pr κ from rfl,x57]
 simp only[Bq,Out.run,af] at ho
 have hgo: ∀c:Int,c=(Utf8.decode s p).1->p<s.size->(letter c||(!(decide ((p:Int)=0)||decide (c<48)||decide ((57:Int)<c))))=true->
   ∃m,m<s.size - p/\eY Rn (fun _=>True) Bq (fun a=>a.1.size - a.2) K m (sp 55 [(18, .ptr 0 0 [] 0)] [.dC s (p+(Utf8.decode s p).2)]):=by
  rintro c rfl hp hc
  have:=yA s p
  refine⟨s.size - (p+(Utf8.decode s p).2),by omega,(s,p+(Utf8.decode s p).2),rfl,trivial,rfl,?_⟩
  rw[nameAt,dif_pos hp,hc,ac1] at ho
  simpa only[Bq,Out.run,af] using ho
 have hno: ∀c:Int,c=(Utf8.decode s p).1->p<s.size->(letter c||(!(decide ((p:Int)=0)||decide (c<48)||decide ((57:Int)<c))))=false->K Exit.ret (sp 55 [(2, .bool false)] []):=by
  rintro c rfl hp hc
  rw[nameAt,dif_pos hp,hc,Bool.false_and] at ho
  exact ho.2 rfl
 have hgo:=hgo _ rfl
 have hno:=hno _ rfl
 generalize ((Utf8.decode s p).1:Int)=c at*
 simp only[af,Nat.blt_eq,aa2,aa4,beq_iff_eq,beq_eq_false_iff_ne,Bool.not_eq_true',ab4,bne_iff_ne]
 refine⟨fun hp=>?_,fun hp=>ho.1 ?_⟩
 ·have hgo:=hgo hp
  have hno:=hno hp
  simp only[letter,ab7,aa3,Bool.not_eq_true',Bool.or_eq_false_iff,Bool.and_eq_false_iff,ab4,aa2,aa4] at hgo hno
  repeat' (first|apply And.intro|intro _)
  all_goals first|(refine hgo ?_;omega)|(refine hno ?_;omega)
 ·have hp: ¬ p<s.size:=fun h=>by rw[show Nat.blt p s.size=true from by rw[Nat.blt_eq];exact h] at hp;cases hp
  rw[nameAt,dif_neg hp]
noncomputable def LU(κ:Kp):Env:=(NP κ).ak 226 4 (aP 0 Rn (fun _=>True) Bq)
theorem XG(κ:Kp):aD (LU κ):=(e48 κ).ak (Zl κ) (l57 κ)
theorem Tq(κ:Kp):aj (LU κ):=(Zl κ).ak aI
theorem y57(κ:Kp)(s:ByteArray)(K:AV->List Dn.Obj->Prop):(bf (LU κ) 12 226 [.lit (.string s)] [] K)=(
 letI z1:=K (AV.bool false) []
 letI z2:=Pg.toProgram (Env.P (NP κ))
 aC (ByteArray.toList s==ByteArray.toList {data:= #[]}) z1 (aC (ByteArray.toList s==ByteArray.toList {data:= #[OfNat.ofNat 95]}) z1 (aC (decide ((↑(ByteArray.size s):Int)>(40:Int))) z1 (ah z2 226 4=ah z2 226 4/\∃(e0:ByteArray×Nat),sp 55 [(18,AV.ptr 0 0 [] 0)] [Obj.dC s 0]=sp 55 [(18,AV.ptr 0 0 [] 0)] [Obj.dC e0.1 e0.2]/\True/\aC (nameAt e0.1 e0.2) (K (AV.bool true) []) z1)))):=by kernel_rfl
def Yj:List AV->Option (Bool×AV)
 |[.lit (.string s)]=>some (true, .bool (isName s))
 |_=>none
theorem p57(κ:Kp):cy (LU κ) 12 226 Yj:=by
 intro args x h
 unfold Yj at h
 split at h
 ·rename_i s
  simp only[aa5,ab1,true_and] at h
  subst h
  refine⟨_,rfl,rfl,?_⟩
  rw[y57]
  unfold isName ll
  simp only[af,aa2,aa4]
  refine⟨fun h1=>by rw[h1];rfl,fun h1=>⟨fun h2=>by rw[h1,h2];rfl,fun h2=>⟨fun h3=>?_,fun h3=>⟨trivial,⟨s,0⟩,rfl,trivial,fun h4=>?_,fun h4=>?_⟩⟩⟩⟩
  ·rw[h1,h2,aa8 (show(40:Int)<s.size from h3)];rfl
  ·rw[h1,h2,aa6 (show ¬ (40:Int)<s.size from h3),h4];rfl
  ·rw[h1,h2,aa6 (show ¬ (40:Int)<s.size from h3),h4];rfl
 ·cases h
noncomputable def VN(κ:Kp):Env:=(LU κ).aG 226 Yj
theorem e57(κ:Kp):aD (VN κ):=(XG κ).aG (Tq κ) (p57 κ)
theorem Y2(κ:Kp):aj (VN κ):=(Tq κ).aG
theorem y64(κ:Kp)(op:Int)(s:ByteArray)(n:Int)(l:List AV)(K:AV->List Dn.Obj->Prop):(bf (VN κ) 12 268 [.agg [.int op, .lit (.string s), .int n, .ad 56 l]] [] K)=(
 letI z1:=K (AV.bool (n==(0:Int))) []
 letI z2:=K (AV.bool false) []
 letI z3:=ByteArray.toList s==ByteArray.toList {data:= #[]}
 aC (op==(1:Int)) (aC (isName s) z1 z2) (aC (op==(2:Int)) (K (AV.bool z3) []) (aC (op==(3:Int)) z1 (aC (op==(4:Int)) (aC z3 z1 z2) (aC (op==(0:Int)) (aC (ByteArray.toList s==ByteArray.toList {data:= #[]}) z1 z2) z2))))):=by kernel_rfl
def Yp:List AV->Option (Bool×AV)
 |[.agg [.lit (.int .i64 op), .lit (.string s), .lit (.int .i64 n), .ad 56 _]]=>some (true, .bool (bare op s n))
 |_=>none
theorem p64(κ:Kp):cy (VN κ) 12 268 Yp:=by
 intro args x h
 unfold Yp at h
 split at h
 ·rename_i op s n l
  simp only[aa5,ab1,true_and] at h
  subst h
  refine⟨_,rfl,rfl,?_⟩
  rw[y64]
  have e: ∀k:Int,(op==k)=decide (op=k):=fun k=>by by_cases h:op=k<;>simp[h]
  simp only[e]
  cases h5:isName s<;>cases h6:(ByteArray.toList s==ByteArray.toList (ByteArray.mk #[]))<;>
  by_cases h1:op=1<;>by_cases h2:op=2<;>by_cases h3:op=3<;>by_cases h4:op=4<;>by_cases h0:op=0<;>
  first|omega|(simp only[aC,bare,ll,h5,h6,h1,h2,h3,h4,h0];rfl)|(simp[aC,bare,ll,h5,h6,h1,h2,h3,h4,h0];done)|(simp[aC,bare,ll,h5,h6,h1,h2,h3,h4,h0];rfl)|skip
 ·cases h
noncomputable def Nj(κ:Kp):Env:=(VN κ).aG 268 Yp
theorem Wo(κ:Kp):aD (Nj κ):=(e57 κ).aG (Y2 κ) (p64 κ)
theorem m64(κ:Kp):aj (Nj κ):=(Y2 κ).aG
theorem Uf(l:List AV):((l.length:Int)==0)=decide ((l.length:Int)=0):=by
 cases h:decide ((l.length:Int)=0) with
 |true=>rw[aa2] at h;rw[h];rfl
 |false=>rw[aa4] at h;exact beq_eq_false_iff_ne.2 h
theorem y60(κ:Kp)(op:Int)(s:ByteArray)(n:Int)(l:List AV)(K:AV->List Dn.Obj->Prop):(bf (Nj κ) 12 262 [.agg [.int op, .lit (.string s), .int n, .ad 56 l]] [] K)=(
 aC (op==(0:Int)) (aC (bare op s n) (K (AV.bool ((↑(l.length):Int)==(0:Int))) []) (K (AV.bool false) [])) (K (AV.bool false) [])):=by kernel_rfl
theorem y61(κ:Kp)(s:ByteArray)(l:List AV)(K:AV->List Dn.Obj->Prop):(bf (Nj κ) 12 263 [.agg [.lit (.string s), .ad 56 l]] [] K)=(
 aC (ByteArray.toList s==ByteArray.toList {data:= #[]}) (K (AV.bool ((↑(l.length):Int)==(0:Int))) []) (K (AV.bool false) [])):=by kernel_rfl
theorem y47(κ:Kp)(b:Bool)(K:AV->List Dn.Obj->Prop):(bf (Nj κ) 12 231 [.bool b] [] K)=(
 aC b (K (AV.lit Value.nilIface) []) (K (AV.lit (Value.iface 306 (Value.pointer (some (Kp.tree κ))))) [])):=by kernel_rfl
def XU:List AV->Option (Bool×AV)
 |[.agg [.lit (.int .i64 op), .lit (.string s), .lit (.int .i64 n), .ad 56 l]]=>some (true, .bool (decide (op=0)&&bare op s n&&decide ((l.length:Int)=0)))
 |_=>none
theorem p60(κ:Kp):cy (Nj κ) 12 262 XU:=by
 intro args x h
 unfold XU at h
 split at h
 ·rename_i op s n l
  simp only[aa5,ab1,true_and] at h
  subst h
  refine⟨_,rfl,rfl,?_⟩
  rw[y60]
  rw[Uf]
  cases h5:bare op s n<;>by_cases h0:op=0<;>simp[af,h5,h0]<;>first|rfl|skip
 ·cases h
def X3:List AV->Option (Bool×AV)
 |[.agg [.lit (.string s), .ad 56 l]]=>some (true, .bool (ll s (ByteArray.mk #[])&&decide ((l.length:Int)=0)))
 |_=>none
theorem p61(κ:Kp):cy (Nj κ) 12 263 X3:=by
 intro args x h
 unfold X3 at h
 split at h
 ·rename_i s l
  simp only[aa5,ab1,true_and] at h
  subst h
  refine⟨_,rfl,rfl,?_⟩
  rw[y61]
  unfold ll
  rw[Uf]
  cases h5:(ByteArray.toList s==ByteArray.toList (ByteArray.mk #[]))<;>simp[af]<;>first|rfl|skip
 ·cases h
def WS(κ:Kp):List AV->Option (Bool×AV)
 |[.lit (.bool b)]=>some (true, .lit (aB κ b))
 |_=>none
theorem p47(κ:Kp):cy (Nj κ) 12 231 (WS κ):=by
 intro args x h
 unfold WS at h
 split at h
 ·rename_i b
  simp only[aa5,ab1,true_and] at h
  subst h
  refine⟨_,rfl,nN κ b,?_⟩
  rw[y47]
  cases b<;>rfl
 ·cases h
noncomputable def Ww(κ:Kp):Env:=(((Nj κ).aG 262 XU).aG 263 X3).aG 231 (WS κ)
theorem Y1(κ:Kp):aD (Ww κ):=(((Wo κ).eo (oq (Wo κ) (m64 κ) (p60 κ))).eo (oq (Wo κ) (m64 κ) (p61 κ))).eo (oq (Wo κ) (m64 κ) (p47 κ))
theorem m47(κ:Kp):aj (Ww κ):=(((m64 κ).aG).aG).aG
def Rw(κ:Kp):List AV->Option (Bool×AV)
 |[.agg [.lit (.int .i64 op), .lit (.string s), .lit (.int .i64 n), .ad 56 l], .lit (.int .i64 h)]=>some (decide (0<=h)&&decide (h<=1000), .lit (aB κ (aw h.toNat (.mk op s n (aa l)))))
 |_=>none
def Du:List AV->Nat
 |[_, .lit (.int .i64 h)]=>h.toNat
 |_=>0
noncomputable def zO(κ:Kp)(n:Nat):Env:=(Ww κ).aG 260 (below (Rw κ) Du n)
theorem x58(κ:Kp)(r:Nat)(h:Int)(l:List AV)(i:Int)(I:Nat->S->Prop)(n:Nat)(K:Exit->S->Prop):(vc (zO κ r) 12 260 none 0 (ah (Pr κ).toProgram 260 10) (sp 72 [(1, .int h),(49, .ad 56 l),(50, .int l.length),(51, .int i)] []) (bL (zO κ r) 260 10 0 I n K))=(
 letI z2:=nth l i.toNat
 letI z3:=K Exit.ret (sp 72 [(4,AV.lit (Value.iface 306 (Value.pointer (some (Kp.tree κ)))))] [])
 letI z5:=i<(↑(l.length):Int)
 letI z6:=h - (1:Int)
 letI z4:=IntKind.wrap IntKind.i64 z6
 letI z1:=aB κ (aw (Int.toNat z4) (Tm.mk (toInt (ae z2 0)) (toStr (ae z2 1)) (toInt (ae z2 2)) (aa (ai (ae z2 3)))))
 aC (decide z5) (ba (decide ((0:Int)<=i)&&decide z5) (aC (toInt (ae z2 0)==(3:Int)) z3 (aC (toInt (ae z2 0)==(4:Int)) z3 (ba (decide ((0:Int)<=
 IntKind.wrap IntKind.i64 z6)&&decide (IntKind.wrap IntKind.i64 z6<=(1000:Int))&&Nat.blt (Du [AV.agg [AV.int (toInt (ae z2 0)),AV.str (toStr (ae z2 1)),
 AV.int (toInt (ae z2 2)),AV.ad 56 (ai (ae z2 3))],AV.int z4]) r) (ba (aE z1) (aC (!bR z1) (K Exit.ret (sp 72 [(4,AV.lit z1)] [])) (∃(e0:Nat),e0<n/\I
 e0 (sp 72 [(1,AV.int h),(49,AV.ad 56 l),(50,AV.int (↑(l.length):Int)),(51,AV.int (IntKind.wrap IntKind.i64 (i+(1:Int))))] [])))))))) (K (Exit.exit
 1) (sp 72 [] []))):=by kernel_rfl
abbrev UJ(a:Int×List AV×Int):S:=sp 72 [(1, .int a.1),(49, .ad 56 a.2.1),(50, .int a.2.1.length),(51, .int a.2.2)] []
def K5(r:Nat)(a:Int×List AV×Int):Prop:=1<=a.1/\a.1<=1000/\a.1.toNat<=r/\a.2.1.length<=aM/\0<=a.2.2/\a.2.2<=a.2.1.length
noncomputable def Gl(κ:Kp)(a:Int×List AV×Int):Out (Exit×S):=
 .aC (mE (a.1 - 1).toNat (aa (a.2.1.drop a.2.2.toNat))) (.one (.exit 1,sp 72 [] [])) (.one (.ret,sp 72 [(4, .lit (aB κ false))] []))
theorem l58(κ:Kp)(r:Nat):bk (zO κ r) 12 260 10 (aP 0 UJ (K5 r) (Gl κ)):=by
 refine aL (fun a=>a.2.1.length - a.2.2.toNat) ?_
 rintro⟨h,l,i⟩ K ⟨h1,h2,h3,h4,h5,h6⟩ ho
 simp only at h1 h2 h3 h4 h5 h6
 rw[show(zO κ r).P=Pr κ from rfl,x58]
 simp only[Gl,Out.run,af] at ho
 rw[aW (n:=h - 1) (by omega) (by omega)]
 simp only[aM] at h4
 simp only[mw,qm]
 simp only[←cz]
 simp only[af,an,aa2,aa4,aa3,beq_iff_eq,beq_eq_false_iff_ne,Bool.not_eq_true',ab4,Du,Nat.blt_eq]
 refine⟨fun hi=>⟨⟨h5,hi⟩,?_⟩,fun hi=>ho.1 ?_⟩
 ·have e:=dL l i.toNat (by omega)
  rw[e] at ho
  have hop:(cx (nth l i.toNat)).op=toInt (ae (nth l i.toNat) 0):=by rw[cz];rfl
  simp only[mE,List.all_cons,hop] at ho
  refine⟨fun ha=>ho.2 (by simp[ha]),fun ha=>⟨fun hb=>ho.2 (by simp[hb]),fun hb=>⟨⟨⟨by omega,by omega⟩,by omega⟩,trivial,fun hc=>?_,fun hc=>?_⟩⟩⟩
  ·rw[hc];exact ho.2 (by rw[hc];simp)
  ·rw[aW (n:=i+1) (by omega) (by omega)]
   refine⟨_,?_,(h,l,i+1),rfl,⟨h1,h2,h3,by simpa[aM] using h4,by simp only;omega,by simp only;omega⟩,rfl,?_⟩
   ·simp only;omega
   ·rw[hc] at ho
    simp only[Gl,Out.run,af,mE]
    rw[show(i+1).toNat=i.toNat+1 by omega]
    simpa[ha,hb] using ho
 ·rw[ab0 (by omega)];rfl
noncomputable def IQ(κ:Kp)(r:Nat):Env:=(zO κ r).ak 260 10 (aP 0 UJ (K5 r) (Gl κ))
theorem y58(κ:Kp)(r:Nat)(op:Int)(s:ByteArray)(n:Int)(l:List AV)(h:Int)(K:AV->List Dn.Obj->Prop):(bf (IQ κ r) 12 260 [.agg [.int op, .lit (.string s), .int n, .ad 56 l], .int h] [] K)=(
 letI z1:=K (AV.lit (Value.iface 306 (Value.pointer (some (Kp.tree κ))))) []
 letI z2:=Pg.toProgram (Env.P (zO κ r))
 letI z3:=K (AV.lit Value.nilIface) []
 aC (h==(0:Int)) z1 (aC (op==(0:Int)) z1 (aC (!kI op) (aC (!bare op s n) z1 (aC (decide ((↑(l.length):Int)>(0:Int))) z1 z3)) (aC (!ByteArray.toList s==ByteArray.toList {data:= #[]}) z1 (aC (n != (0:Int)) z1 (aC ((↑(l.length):Int) != (2:Int)) z1 (ah z2 260 10=ah z2 260 10/\∃(e0:Int×List AV×Int),sp 72 [(1,AV.int h),(49,AV.ad 56 l),(50,AV.int (↑(l.length):Int)),(51,AV.int 0)] []=sp 72 [(1,AV.int e0.1),(49,AV.ad 56 e0.2.1),(50,AV.int (↑(e0.2.1.length):Int)),(51,AV.int e0.2.2)] []/\((1:Int)<=e0.1/\e0.1<=(1000:Int)/\e0.1.toNat<=r/\e0.2.1.length<=9223372036854775807/\(0:Int)<=e0.2.2/\e0.2.2<=(↑(e0.2.1.length):Int))/\aC (mE (Int.toNat (e0.1 - (1:Int))) (aa (List.drop (Int.toNat e0.2.2) e0.2.1))) z3 z1))))))):=by kernel_rfl
theorem WV(κ:Kp)(r:Nat)(hp:gm (Pr κ) 260 (below (Rw κ) Du r)):aD (IQ κ r)/\aj (IQ κ r)/\(IQ κ r).P=Pr κ:=
 have h:aD (zO κ r):=(Y1 κ).eo hp
 have hm:aj (zO κ r):=(m47 κ).aG
 ⟨h.ak hm (l58 κ r),hm.ak aI,rfl⟩
theorem p58(κ:Kp)(r:Nat):cy (IQ κ r) 12 260 (fun xs=>bif Nat.beq (Du xs) r then Rw κ xs else none):=by
 intro args x hh
 cases hb:Nat.beq (Du args) r with
 |false=>simp only[hb] at hh;cases hh
 | true=>
  simp only[hb,aa9] at hh
  unfold Rw at hh
  split at hh
  ·rename_i op s n l h
   simp only[aa5,ab1,aa3,aa2] at hh
   obtain⟨⟨h1,h2⟩,rfl⟩:=hh
   have hr:h.toNat=r:=Nat.eq_of_beq_eq_true hb
   refine⟨_,rfl,nN κ _,?_⟩
   rw[y58]
   have ef:AV.lit (.iface 306 (.pointer (some κ.tree)))= .lit (aB κ false):=rfl
   have et:AV.lit .nilIface= .lit (aB κ true):=rfl
   rw[ef,et]
   by_cases h0:h=0
   ·subst h0;rfl
   ·obtain⟨m,hm⟩: ∃m,h.toNat=m+1:=⟨h.toNat - 1,by omega⟩
    rw[hm,se,dz]
    unfold ll
    generalize (ByteArray.toList s==ByteArray.toList (ByteArray.mk #[]))=z
    simp only[af,beq_iff_eq,beq_eq_false_iff_ne,Bool.not_eq_true',ab4,aa2,aa4,bne_iff_ne,bne_eq_false_iff_eq]
    refine⟨fun e=>absurd e h0,fun _=>⟨fun e=>by rw[aa8 e];rfl,fun e=>?_⟩⟩
    rw[aa6 e,aa7]
    refine⟨fun e2=>?_,fun e2=>?_⟩
    ·rw[e2,aa7]
     refine⟨fun e3=>by rw[e3];rfl,fun e3=>⟨fun e4=>?_,fun e4=>?_⟩⟩
     ·rw[aa6 (show ¬ l.length=0 by omega),Bool.and_false]
     ·rw[e3,aa8 (show l.length=0 by omega)];rfl
    ·rw[e2,aa9]
     refine⟨fun e3=>by rw[e3];rfl,fun e3=>⟨fun e4=>by rw[e3,aa6 e4];rfl,fun e4=>⟨fun e5=>?_,fun e5=>?_⟩⟩⟩
     ·rw[aa6 (show ¬ l.length=2 by omega)];simp
     ·refine⟨trivial,(h,l,0),rfl,⟨by simp only;omega,h2,by simp only;omega,by simp only;omega,by simp only;omega,by simp only;omega⟩,?_⟩
      rw[e3,aa8 e4,aa8 (show l.length=2 by omega)]
      simp only[show(h - 1).toNat=m by omega,ab9,ab2,ac1]
      exact⟨fun e=>by rw[e],fun e=>by rw[e]⟩
  ·cases hh
theorem q58(κ:Kp):gm (Pr κ) 260 (Rw κ):=aD.pZ (Rw κ) Du (IQ κ) (WV κ) (p58 κ)
noncomputable def Om(κ:Kp):Env:=(Ww κ).aG 260 (Rw κ)
theorem e58(κ:Kp):aD (Om κ):=(Y1 κ).eo (q58 κ)
theorem Zy(κ:Kp):aj (Om κ):=(m47 κ).aG
theorem x46(κ:Kp)(l:List AV)(i:Int)(I:Nat->S->Prop)(n:Nat)(K:Exit->S->Prop):(vc (Om κ) 12 230 none 0 (ah (Pr κ).toProgram 230 4) (sp 36 [(24, .ad 56 l),(25, .int l.length),(26, .int i)] []) (bL (Om κ) 230 4 0 I n K))=(
 letI z2:=nth l i.toNat
 letI z1:=aB κ (aw 20 (Tm.mk (toInt (ae z2 0)) (toStr (ae z2 1)) (toInt (ae z2 2)) (aa (ai (ae z2 3)))))
 letI z3:=i<(↑(l.length):Int)
 aC (decide z3) (ba (decide ((0:Int)<=i)&&decide z3) (ba (aE z1) (aC (!bR z1) (K Exit.ret (sp 36 [(2,AV.lit z1)] [])) (∃(e0:Nat),e0<n/\I e0 (sp 36
 [(24,AV.ad 56 l),(25,AV.int (↑(l.length):Int)),(26,AV.int (IntKind.wrap IntKind.i64 (i+(1:Int))))] []))))) (K (Exit.exit 0) (sp 36 [] []))):=by kernel_rfl
abbrev UP(a:List AV×Int):S:=sp 36 [(24, .ad 56 a.1),(25, .int a.1.length),(26, .int a.2)] []
def Mh(a:List AV×Int):Prop:=a.1.length<=aM/\0<=a.2/\a.2<=a.1.length
noncomputable def Gb(κ:Kp)(a:List AV×Int):Out (Exit×S):=
 .aC ((aa (a.1.drop a.2.toNat)).all (aw 20)) (.one (.exit 0,sp 36 [] [])) (.one (.ret,sp 36 [(2, .lit (aB κ false))] []))
theorem l46(κ:Kp):bk (Om κ) 12 230 4 (aP 0 UP Mh (Gb κ)):=by
 refine aL (fun a=>a.1.length - a.2.toNat) ?_
 rintro⟨l,i⟩ K ⟨h4,h5,h6⟩ ho
 simp only at h4 h5 h6
 rw[show(Om κ).P=Pr κ from rfl,x46]
 simp only[Gb,Out.run,af] at ho
 simp only[aM] at h4
 simp only[mw,qm,←cz]
 simp only[af,an,aa2,aa4,aa3,beq_iff_eq,beq_eq_false_iff_ne,Bool.not_eq_true',ab4]
 refine⟨fun hi=>⟨⟨h5,hi⟩,trivial,fun hc=>?_,fun hc=>?_⟩,fun hi=>ho.1 ?_⟩
 ·rw[hc]
  rw[dL l i.toNat (by omega),List.all_cons,hc,Bool.false_and] at ho
  exact ho.2 rfl
 ·rw[aW (n:=i+1) (by omega) (by omega)]
  refine⟨_,?_,(l,i+1),rfl,⟨by simpa[aM] using h4,by simp only;omega,by simp only;omega⟩,rfl,?_⟩
  ·simp only;omega
  ·rw[dL l i.toNat (by omega),List.all_cons,hc,ac1] at ho
   simp only[Gb,Out.run,af,show(i+1).toNat=i.toNat+1 by omega]
   exact ho
 ·rw[ab0 (by omega)];rfl
noncomputable def JD(κ:Kp):Env:=(Om κ).ak 230 4 (aP 0 UP Mh (Gb κ))
theorem Xm(κ:Kp):aD (JD κ):=(e58 κ).ak (Zy κ) (l46 κ)
theorem Tu(κ:Kp):aj (JD κ):=(Zy κ).ak aI
theorem y46(κ:Kp)(s:ByteArray)(l:List AV)(K:AV->List Dn.Obj->Prop):(bf (JD κ) 12 230 [.agg [.lit (.string s), .ad 56 l]] [] K)=(
 letI z1:=K (AV.lit (Value.iface 306 (Value.pointer (some (Kp.tree κ))))) []
 letI z2:=Pg.toProgram (Env.P (Om κ))
 aC (!isName s) z1 (aC ((↑(l.length):Int)==(0:Int)) z1 (aC (decide ((↑(l.length):Int)>(8:Int))) z1 (ah z2 230 4=ah z2 230 4/\∃(e0:List AV×
 Int),sp 36 [(24,AV.ad 56 l),(25,AV.int (↑(l.length):Int)),(26,AV.int 0)] []=sp 36 [(24,AV.ad 56 e0.1),(25,AV.int (↑(e0.1.length):Int)),(26,
 AV.int e0.2)] []/\(e0.1.length<=9223372036854775807/\(0:Int)<=e0.2/\e0.2<=(↑(e0.1.length):Int))/\aC (List.all (aa (List.drop e0.2.toNat e0.1)) (aw
 20)) (K (AV.lit Value.nilIface) []) z1)))):=by kernel_rfl
def Xd(κ:Kp):List AV->Option (Bool×AV)
 |[.agg [.lit (.string s), .ad 56 l]]=>some (true, .lit (aB κ (bq ⟨s,aa l⟩)))
 |_=>none
theorem p46(κ:Kp):cy (JD κ) 12 230 (Xd κ):=by
 intro args x hh
 unfold Xd at hh
 split at hh
 ·rename_i s l
  simp only[aa5,ab1,true_and] at hh
  subst hh
  refine⟨_,rfl,nN κ _,?_⟩
  rw[y46]
  have ef:AV.lit (.iface 306 (.pointer (some κ.tree)))= .lit (aB κ false):=rfl
  have et:AV.lit .nilIface= .lit (aB κ true):=rfl
  rw[ef,et]
  simp only[bq,dz]
  simp only[af,beq_iff_eq,beq_eq_false_iff_ne,Bool.not_eq_true',ab4,aa2,aa4]
  refine⟨fun e=>by rw[e];rfl,fun e=>⟨fun e1=>by rw[aa8 (show l.length=0 by omega)];simp,fun e1=>⟨fun e2=>by rw[aa6 (show ¬ l.length<=8 by omega)];simp,fun e2=>⟨trivial,(l,0),rfl,⟨by simp only;omega,by simp only;omega,by simp only;omega⟩,?_⟩⟩⟩⟩
  rw[e,aa6 (show ¬ l.length=0 by omega),aa8 (show l.length<=8 by omega)]
  simp only[ab9,ab2,ac1,Bool.not_false]
  exact⟨fun e=>by rw[e],fun e=>by rw[e]⟩
 ·cases hh
noncomputable def Na(κ:Kp):Env:=(JD κ).aG 230 (Xd κ)
theorem e46(κ:Kp):aD (Na κ):=(Xm κ).aG (Tu κ) (p46 κ)
theorem Wi(κ:Kp):aj (Na κ):=(Tu κ).aG
noncomputable def D8(κ:Kp):Env:=(Na κ).ak 261 2 (lf (Na κ) 12 261 2 5)
theorem YJ(κ:Kp):aD (D8 κ):=(e46 κ).ak (Wi κ) (ss (Wi κ) 5)
theorem TL(κ:Kp):aj (D8 κ):=(Wi κ).ak (lI (Wi κ) 5)
theorem YU(κ:Kp)(u1 u2:Value)(K:AV->List Dn.Obj->Prop):(bf (D8 κ) 12 261 [.ad 170 [.lit u1, .lit u2]] [] K)=(
 letI z1:=Pg.toProgram (Env.P (Na κ))
 ah z1 261 2=ah z1 261 2/\ba (aE u1) (aC (!bR u1) (K (AV.lit u1) []) (ba (aE u2) (aC (!bR u2) (K (AV.lit u2) []) (K (AV.lit Value.nilIface) []))))):=by kernel_rfl
theorem Yo(κ:Kp)(u1 u2 u3:Value)(K:AV->List Dn.Obj->Prop):(bf (D8 κ) 12 261 [.ad 170 [.lit u1, .lit u2, .lit u3]] [] K)=(
 letI z1:=Pg.toProgram (Env.P (Na κ))
 ah z1 261 2=ah z1 261 2/\ba (aE u1) (aC (!bR u1) (K (AV.lit u1) []) (ba (aE u2) (aC (!bR u2) (K (AV.lit u2) []) (ba (aE u3) (aC (!bR u3) (K (AV.lit u3) [])
 (K (AV.lit Value.nilIface) []))))))):=by kernel_rfl
theorem XN(κ:Kp)(u1 u2 u3 u4:Value)(K:AV->List Dn.Obj->Prop):(bf (D8 κ) 12 261 [.ad 170 [.lit u1, .lit u2, .lit u3, .lit u4]] [] K)=(
 letI z1:=Pg.toProgram (Env.P (Na κ))
 ah z1 261 2=ah z1 261 2/\ba (aE u1) (aC (!bR u1) (K (AV.lit u1) []) (ba (aE u2) (aC (!bR u2) (K (AV.lit u2) []) (ba (aE u3) (aC (!bR u3) (K (AV.lit u3) [])
 (ba (aE u4) (aC (!bR u4) (K (AV.lit u4) []) (K (AV.lit Value.nilIface) []))))))))):=by kernel_rfl
def bH(u v:Value):Value:=bif bR u then v else u
theorem DV(κ:Kp)(a b:Bool):bH (aB κ a) (aB κ b)=aB κ (a&&b):=by cases a<;>rfl
theorem DK{u:Value}(h:aE u=true)(h2:bR u=true):u= .nilIface:=by cases u<;>simp_all[bR,aE]
def Yg:List AV->Option (Bool×AV)
 |[.ad 170 [.lit u1, .lit u2]]=>some ((aE u1&&aE u2)&&(bm u1&&bm u2), .lit (bH u1 u2))
 |[.ad 170 [.lit u1, .lit u2, .lit u3]]=>some ((aE u1&&(aE u2&&aE u3))&&(bm u1&&(bm u2&&bm u3)), .lit (bH u1 (bH u2 u3)))
 |[.ad 170 [.lit u1, .lit u2, .lit u3, .lit u4]]=>some ((aE u1&&(aE u2&&(aE u3&&aE u4)))&&(bm u1&&(bm u2&&(bm u3&&bm u4))), .lit (bH u1 (bH u2 (bH u3 u4))))
 |_=>none
theorem p59(κ:Kp):cy (D8 κ) 12 261 Yg:=by
 intro args x hh
 unfold Yg at hh
 split at hh
 ·rename_i u1 u2
  simp only[aa5,ab1,aa3] at hh
  obtain⟨⟨⟨h1,h2⟩,h3,h4⟩,rfl⟩:=hh
  refine⟨_,rfl,by unfold bH;cases bR u1<;>assumption,?_⟩
  rw[YU,h1,h2]
  refine⟨rfl,?_⟩
  unfold bH
  cases e1:bR u1
  ·rfl
  ·cases e2:bR u2
   ·rfl
   ·rw[DK h2 e2];rfl
 ·rename_i u1 u2 u3
  simp only[aa5,ab1,aa3] at hh
  obtain⟨⟨⟨h1,h2,h3⟩,h4,h5,h6⟩,rfl⟩:=hh
  refine⟨_,rfl,by unfold bH;cases bR u1<;>cases bR u2<;>assumption,?_⟩
  rw[Yo,h1,h2,h3]
  refine⟨rfl,?_⟩
  unfold bH
  cases e1:bR u1
  ·rfl
  ·cases e2:bR u2
   ·rfl
   ·cases e3:bR u3
    ·rfl
    ·rw[DK h3 e3];rfl
 ·rename_i u1 u2 u3 u4
  simp only[aa5,ab1,aa3] at hh
  obtain⟨⟨⟨h1,h2,h3,k1⟩,h4,h5,h6,k2⟩,rfl⟩:=hh
  refine⟨_,rfl,by unfold bH;cases bR u1<;>cases bR u2<;>cases bR u3<;>assumption,?_⟩
  rw[XN,h1,h2,h3,k1]
  refine⟨rfl,?_⟩
  unfold bH
  cases e1:bR u1
  ·rfl
  ·cases e2:bR u2
   ·rfl
   ·cases e3:bR u3
    ·rfl
    ·cases e4:bR u4
     ·rfl
     ·rw[DK k1 e4];rfl
 ·cases hh
noncomputable def Td(κ:Kp):Env:=(D8 κ).aG 261 Yg
theorem e59(κ:Kp):aD (Td κ):=(YJ κ).aG (TL κ) (p59 κ)
theorem ZK(κ:Kp):aj (Td κ):=(TL κ).aG
theorem y49(κ:Kp)(op:Int)(s:ByteArray)(l:List AV)(o1:Int)(s1:ByteArray)(n1:Int)(l1:List AV)(o2:Int)(s2:ByteArray)(n2:Int)(l2:List AV)(K:AV->List Dn.Obj->Prop):(bf (Td κ) 12 233 [.agg [.int op, .agg [.lit (.string s), .ad 56 l], .agg [.int o1, .lit (.string s1), .int n1, .ad 56 l1], .agg [.int o2, .lit (.string s2), .int n2, .ad 56 l2]]] [] K)=(
 letI z3:=aB κ (aw 20 (Tm.mk o1 s1 n1 (aa l1)))
 letI z4:=aB κ (aw 20 (Tm.mk o2 s2 n2 (aa l2)))
 letI z5:=aB κ (bq {rel:=s,l:=aa l})
 letI z6:=aB κ (decide (o2=(0:Int))&&bare o2 s2 n2&&decide ((↑(l2.length):Int)=(0:Int)))
 letI z7:=Value.iface 306 (Value.pointer (some (Kp.tree κ)))
 letI z8:=aB κ (o2==(1:Int))
 letI z10:=aB κ (bq {rel:=s,l:=aa l})
 letI z11:=K (AV.lit (bH z5 (bH z8 (bH z3 z4)))) []
 letI z13:=aE z3&&aE z4
 letI z14:=bm z3&&bm z4
 letI z17:=K (AV.lit (bH z5 z7)) []
 letI z2:=aC (decide (o1=(0:Int))&&bare o1 s1 n1&&decide ((↑(l1.length):Int)=(0:Int))) (ba (aE z5&&aE z6&&(bm z5&&bm z6)) (K (AV.lit (bH z5
  z6)) [])) (ba (aE z5&&true&&(bm z5&&true)) z17)
 letI z12:=ba (aE z5&&(true&&z13)&&(bm z5&&(true&&z14))) z17
 letI z18:=aB κ (o2 != (4:Int))
 letI z19:=o1==(2:Int)
 letI z20:=K (AV.lit z7) []
 letI z15:=ba (true&&z13&&(true&&z14)) z20
 letI z1:=aC (ll s {data:= #[]}&&decide ((↑(l.length):Int)=(0:Int))) (aC (o1 != (4:Int)) (ba (aE z18&&z13&&(bm z18&&z14)) (K (AV.lit (bH z18 (bH z3 z4))) [])) z15) z15
 letI z21:=bm z5&&(bm z6&&bm z3)
 letI z22:=aE z8&&z13
 letI z23:=bm z8&&z14
 letI z9:=aE z5&&z22&&(bm z5&&z23)
 letI z16:=ba z9 (K (AV.lit (bH z10 (bH z8 (bH z3 z4)))) [])
 aC (o1==(1:Int)) (aC (op==(1:Int)) z2 (aC (op==(2:Int)) z2 (aC (op==(3:Int)) z1 (aC (op==(4:Int)) z1 (aC (op==(5:Int)) z1 (aC (op==(6
 :Int)) z1 (aC (op==(7:Int)) (ba (aE z5&&(aE z6&&aE z3)&&z21) (K (AV.lit (bH z5 (bH z6 z3))) [])) (aC (op==(8:Int)) (ba z9 z11) (aC (op==(9:
 Int)) (ba (aE z10&&z22&&(bm z5&&z23)) z11) (aC (op==(10:Int)) z16 z20)))))))))) (aC (op==(1:Int)) z2 (aC (op==(2:Int)) z2 (aC (op==(3:
 Int)) z1 (aC (op==(4:Int)) z1 (aC (op==(5:Int)) z1 (aC (op==(6:Int)) z1 (aC (op==(7:Int)) (aC z19 (ba (aE z10&&(aE z6&&aE z3)&&z21) (K
 (AV.lit (bH z10 (bH z6 z3))) [])) (ba (aE z5&&(true&&aE z3)&&(bm z5&&(true&&bm z3))) (K (AV.lit (bH z10 z7)) []))) (aC (op==(8:Int)) (aC z19 (ba
 z9 z11) z12) (aC (op==(9:Int)) (aC z19 (ba (aE z5&&z22&&(bm z10&&z23)) z11) (ba (aE z5&&(true&&z13)&&(bm z10&&(true&&z14))) z17)) (aC (op==
 (10:Int)) (aC z19 z16 z12) z20))))))))))):=by kernel_rfl
theorem Pd(κ:Kp)(b x y r:Bool):aC b (AV.lit (aB κ x)=AV.lit (aB κ r)) (AV.lit (aB κ y)=AV.lit (aB κ r))↔(AV.lit (aB κ (bif b then x else y))=AV.lit (aB κ r)):=by
 cases b<;>rfl
theorem N5(a b:Int):(a==b)=decide (a=b):=by by_cases h:a=b<;>simp[h]
theorem Gd(a b:Int):(a != b)= !decide (a=b):=by by_cases h:a=b<;>simp[h]
def XO(κ:Kp):List AV->Option (Bool×AV)
 |[.agg [.lit (.int .i64 op), .agg [.lit (.string s), .ad 56 l], .agg [.lit (.int .i64 o1), .lit (.string s1), .lit (.int .i64 n1), .ad 56 l1], .agg [.lit (.int .i64 o2), .lit (.string s2), .lit (.int .i64 n2), .ad 56 l2]]]=>
  some (true, .lit (aB κ (iV ⟨op,⟨s,aa l⟩, .mk o1 s1 n1 (aa l1), .mk o2 s2 n2 (aa l2)⟩)))
 |_=>none
theorem p49(κ:Kp):cy (Td κ) 12 233 (XO κ):=by
 intro args x hh
 unfold XO at hh
 split at hh
 ·rename_i op s l o1 s1 n1 l1 o2 s2 n2 l2
  simp only[aa5,ab1,true_and] at hh
  subst hh
  refine⟨_,rfl,nN κ _,?_⟩
  rw[y49]
  have ef:Value.iface 306 (.pointer (some κ.tree))=aB κ false:=rfl
  rw[ef]
  simp only[mw,nN,DV,Bool.and_true,Bool.and_self,ba]
  simp only[←QU,←Rz,N5,Gd,Pd]
  refine congrArg (fun b=>AV.lit (aB κ b)) ?_
  have ix:VI (.mk o1 s1 n1 (aa l1))=(decide (o1=1)||decide (o1=2)):=rfl
  rw[H8,ix]
  generalize bq ⟨s,aa l⟩=A
  generalize Rr ⟨s,aa l⟩=N0
  generalize Gk (.mk o1 s1 n1 (aa l1))=N1
  generalize Gk (.mk o2 s2 n2 (aa l2))=N2
  generalize aw 20 (.mk o1 s1 n1 (aa l1))=R1
  generalize aw 20 (.mk o2 s2 n2 (aa l2))=R2
  generalize decide (o1=1)=a1
  generalize decide (o1=2)=a2
  generalize decide (o1=4)=a4
  generalize decide (o2=4)=b4
  generalize decide (o2=1)=b1
  generalize decide (op=1)=p1
  generalize decide (op=2)=p2
  generalize decide (op=3)=p3
  generalize decide (op=4)=p4
  generalize decide (op=5)=p5
  generalize decide (op=6)=p6
  generalize decide (op=7)=p7
  generalize decide (op=8)=p8
  generalize decide (op=9)=p9
  generalize decide (op=10)=p10
  cases p1
  case true=>cases a1<;>cases N1<;>cases A<;>cases N2<;>rfl
  cases p2
  case true=>cases a1<;>cases N1<;>cases A<;>cases N2<;>rfl
  cases p3
  case true=>cases a1<;>cases N0<;>cases a4<;>cases b4<;>cases R1<;>cases R2<;>rfl
  cases p4
  case true=>cases a1<;>cases N0<;>cases a4<;>cases b4<;>cases R1<;>cases R2<;>rfl
  cases p5
  case true=>cases a1<;>cases N0<;>cases a4<;>cases b4<;>cases R1<;>cases R2<;>rfl
  cases p6
  case true=>cases a1<;>cases N0<;>cases a4<;>cases b4<;>cases R1<;>cases R2<;>rfl
  cases p7
  case true=>cases a1<;>cases a2<;>cases A<;>cases N2<;>cases R1<;>rfl
  cases p8
  case true=>cases a1<;>cases a2<;>cases A<;>cases b1<;>cases R1<;>cases R2<;>rfl
  cases p9
  case true=>cases a1<;>cases a2<;>cases A<;>cases b1<;>cases R1<;>cases R2<;>rfl
  cases p10
  case true=>cases a1<;>cases a2<;>cases A<;>cases b1<;>cases R1<;>cases R2<;>rfl
  cases a1<;>rfl
 ·cases hh
noncomputable def Pc(κ:Kp):Env:=(Td κ).aG 233 (XO κ)
theorem e49(κ:Kp):aD (Pc κ):=(e59 κ).aG (ZK κ) (p49 κ)
theorem ZS(κ:Kp):aj (Pc κ):=(ZK κ).aG
structure cq where
 xs:List AV
 more:List AV
 rel:ByteArray
 hl:List AV
 bl:List AV
 line:Int
 i:Int
abbrev aq(a:cq):AV:= .agg [.agg [.lit (.string a.rel), .ad 56 a.hl], .ad 72 a.bl, .int a.line]
abbrev Bm(a:cq):S:=sp 69 [(0, .cK 0),(1, .ptr 1 0 [] 0),(25, .ad 56 a.hl),(26, .int a.hl.length),(27, .int a.i)] [.ext (some a.xs), .box 66 (aq a)]
abbrev JN(a:cq):S:=sp 69 [(0, .cK 0),(57, .ad 72 a.bl),(58, .int a.bl.length),(59, .int a.i)] [.ext (some a.xs), .box 66 (aq a)]
def mX(κ:Kp)(l:List Bool):List AV:=l.map fun b=> .bp [.lit (aB κ b)]
def y0(κ:Kp)(a:cq):Prop:=a.hl.length<=aM/\0<=a.i/\a.i<=a.hl.length/\a.xs=mX κ ((aa (a.hl.drop a.i.toNat)).map (pQ a.bl.length))++a.more
def FE(κ:Kp)(a:cq):Prop:=a.bl.length<=aM/\0<=a.i/\a.i<=a.bl.length/\a.xs=mX κ ((di (a.bl.drop a.i.toNat)).map iV)
def Ec(a:cq):Out (Exit×S):= .all (fun _:Bool=>True) fun b=> .aC b (.one (.exit 0,sp 69 [(0, .cK 0),(1, .ptr 1 0 [] 0)] [.ext (some a.more), .box 66 (aq a)]))
 (.one (.ret,sp 69 [] [.ext none, .box 66 (aq a)]))
def Kc(a:cq):Out (Exit×S):= .all (fun _:Bool=>True) fun b=> .aC b (.one (.exit 2,sp 69 [] [.ext (some []), .box 66 (aq a)]))
 (.one (.ret,sp 69 [] [.ext none, .box 66 (aq a)]))
theorem Xy(κ:Kp)(a:cq)(I:Nat->S->Prop)(n:Nat)(K:Exit->S->Prop):(vc (Pc κ) 12 229 none 2 (ah (Pr κ).toProgram 229 2) (Bm a) (bL (Pc κ) 229 2 2 I n K))=(
 letI z2:=IntKind.wrap IntKind.i64 (a.i+(1:Int))
 letI z3:=sp 69 [] [Obj.ext none,Obj.box 66 (aq a)]
 letI z4:=ae (nth a.hl a.i.toNat) 0
 letI z5:=a.hl.length
 letI z1:=∃(e1:List AV),a.xs=AV.bp [AV.lit (Value.iface 306 (Value.pointer (some (Kp.tree κ))))]::e1/\(∃(e0:Nat),e0<n/\I e0 (sp 69 [(0,AV.cK
  0),(1,AV.ptr 1 0 [] 0),(25,AV.ad 56 a.hl),(26,AV.int (↑z5:Int)),(27,AV.int z2)] [Obj.ext (some e1),Obj.box 66 (aq a)]))/\K Exit.ret z3
 aC (decide (a.i<(↑z5:Int))) (ba (decide ((0:Int)<=a.i)&&decide (a.i<(↑z5:Int))) (aC (toInt z4 != (4:Int)) (aC (!kI (toInt z4)) (aC (toInt z4 !=
 (1:Int)) (∃(e1:List AV),a.xs=AV.bp [AV.lit Value.nilIface]::e1/\(∃(e0:Nat),e0<n/\I e0 (sp 69 [(0,AV.cK 0),(1,AV.ptr 1 0 [] 0),(25,AV.ad
 56 a.hl),(26,AV.int (↑z5:Int)),(27,AV.int z2)] [Obj.ext (some e1),Obj.box 66 (aq a)]))/\K Exit.ret z3) (∃(e1:List AV),a.xs=AV.bp [AV.lit (aB κ
 (decide ((↑(a.bl.length):Int)>(0:Int))))]::e1/\(∃(e0:Nat),e0<n/\I e0 (sp 69 [(0,AV.cK 0),(1,AV.ptr 1 0 [] 0),(25,AV.ad 56 a.hl),(26,
 AV.int (↑z5:Int)),(27,AV.int z2)] [Obj.ext (some e1),Obj.box 66 (aq a)]))/\K Exit.ret z3)) z1) z1)) (K (Exit.exit 0) (sp 69 [(0,AV.cK 0),(1,AV.ptr 1 0
 [] 0)] [Obj.ext (some a.xs),Obj.box 66 (aq a)]))):=by kernel_rfl
theorem X7(κ:Kp):bk (Pc κ) 12 229 2 (aP 2 Bm (y0 κ) Ec):=by
 refine aL (fun a=>a.hl.length - a.i.toNat) ?_
 rintro⟨xs,more,rel,hl,bl,line,i⟩ K ⟨h1,h2,h3,h4⟩ ho
 simp only at h1 h2 h3 h4
 rw[show(Pc κ).P=Pr κ from rfl,Xy]
 have ef:Value.iface 306 (.pointer (some κ.tree))=aB κ false:=rfl
 have et:Value.nilIface=aB κ true:=rfl
 have ho1:=ho true trivial
 have ho2:=ho false trivial
 simp only[Out.run,aC] at ho1 ho2
 simp only[ef,et]
 simp only[aM] at h1
 simp only[af,an,aa2,aa4,aa3]
 refine⟨fun hi=>⟨⟨h2,hi⟩,?_⟩,fun hi=>?_⟩
 ·rw[dL hl i.toNat (by omega)] at h4
  have hop:(cx (nth hl i.toNat)).op=toInt (ae (nth hl i.toNat) 0):=by rw[cz];rfl
  simp only[ac2,mX,pQ,hop,List.cons_append] at h4
  rw[aW (n:=i+1) (by omega) (by omega)]
  have go: ∀b,b=(!decide (toInt (ae (nth hl i.toNat) 0)=4)&& !kI (toInt (ae (nth hl i.toNat) 0))&&(!decide (toInt (ae (nth hl i.toNat) 0)=1)||decide (0<bl.length)))->
    ∃rest,xs=AV.bp [AV.lit (aB κ b)]::rest/\(∃m,m<hl.length - i.toNat/\eY Bm (y0 κ) Ec (fun a=>a.hl.length - a.i.toNat) K m (Bm ⟨rest,more,rel,hl,bl,line,i+1⟩))/\K Exit.ret (sp 69 [] [.ext none, .box 66 (aq ⟨xs,more,rel,hl,bl,line,i⟩)]):=by
   rintro b rfl
   refine⟨_,h4,⟨_,?_,⟨_,more,rel,hl,bl,line,i+1⟩,rfl,⟨by simpa[aM] using h1,by simp only;omega,by simp only;omega,?_⟩,rfl,ho⟩,ho2⟩
   ·simp only;omega
   ·simp only[mX,show(i+1).toNat=i.toNat+1 by omega]
  simp only[Gd,Bool.not_eq_true',ab4,aa2,aa4]
  refine⟨fun e1=>⟨fun e2=>⟨fun e3=>go _ ?_,fun e3=>go _ ?_⟩,fun e2=>go _ ?_⟩,fun e1=>go _ ?_⟩
  ·simp[e1,e2,e3]
  ·have e4:decide ((bl.length:Int)>0)=decide (0<bl.length):=by
    by_cases h:0<bl.length
    ·rw[aa8 h,aa8 (by omega)]
    ·rw[aa6 h,aa6 (by omega)]
   rw[e4]
   simp[e2,e3]
   intro _;rfl
  ·simp[e2]
  ·simp[e1]
 ·rw[ab0 (by omega)] at h4
  simp only[aa,mX,ac3,List.nil_append] at h4
  subst h4
  exact ho1
noncomputable def zG(κ:Kp):Env:=(Pc κ).ak 229 2 (aP 2 Bm (y0 κ) Ec)
theorem YW(κ:Kp):aD (zG κ):=(e49 κ).ak (ZS κ) (X7 κ)
theorem Vh(κ:Kp):aj (zG κ):=(ZS κ).ak aI
theorem Xh(κ:Kp)(a:cq)(I:Nat->S->Prop)(n:Nat)(K:Exit->S->Prop):(vc (zG κ) 12 229 none 2 (ah (Pr κ).toProgram 229 7) (JN a) (bL (zG κ) 229 7 2 I n K))=(
 letI z1:=nth a.bl a.i.toNat
 letI z2:=AV.agg [AV.agg [AV.str a.rel,AV.ad 56 a.hl],AV.ad 72 a.bl,AV.int a.line]
 letI z3:=a.i<(↑(a.bl.length):Int)
 aC (decide z3) (ba (decide ((0:Int)<=a.i)&&decide z3) (∃(e1:List AV),a.xs=AV.bp [AV.lit (aB κ (iV {op:=toInt (ae z1 0),a:={rel:=toStr (ae (ae z1 1) 0),l:=aa (ai (ae (ae z1 1) 1))},x:=Tm.mk (toInt (ae (ae z1 2) 0)) (toStr (ae (ae z1 2) 1)) (toInt (ae (ae z1 2) 2)) (aa (ai (ae (ae z1 2) 3))),y:=Tm.mk (toInt (ae (ae z1 3) 0)) (toStr (ae (ae z1 3) 1)) (toInt (ae (ae z1 3) 2)) (aa (ai (ae (ae z1 3) 3)))}))]::e1/\(∃(e0:Nat),e0<n/\I e0 (sp 69 [(0,AV.cK 0),(57,AV.ad 72 a.bl),(58,AV.int (↑(a.bl.length):Int)),(59,AV.int (IntKind.wrap IntKind.i64 (a.i+(1:Int))))] [Obj.ext (some e1),Obj.box 66 z2]))/\K Exit.ret (sp 69 [] [Obj.ext none,Obj.box 66 z2]))) (K (Exit.exit 2) (sp 69 [] [Obj.ext (some a.xs),Obj.box 66 z2]))):=by kernel_rfl
theorem Xr(κ:Kp):bk (zG κ) 12 229 7 (aP 2 JN (FE κ) Kc):=by
 refine aL (fun a=>a.bl.length - a.i.toNat) ?_
 rintro⟨xs,more,rel,hl,bl,line,i⟩ K ⟨h1,h2,h3,h4⟩ ho
 simp only at h1 h2 h3 h4
 rw[show(zG κ).P=Pr κ from rfl,Xh]
 have ho1:=ho true trivial
 have ho2:=ho false trivial
 simp only[Out.run,aC] at ho1 ho2
 simp only[aM] at h1
 simp only[af,an,aa2,aa4,aa3,←lt_eq]
 refine⟨fun hi=>⟨⟨h2,hi⟩,?_⟩,fun hi=>?_⟩
 ·rw[ov bl i.toNat (by omega)] at h4
  simp only[ac2,mX] at h4
  rw[aW (n:=i+1) (by omega) (by omega)]
  refine⟨_,h4,⟨_,?_,⟨_,more,rel,hl,bl,line,i+1⟩,rfl,⟨by simpa[aM] using h1,by simp only;omega,by simp only;omega,?_⟩,rfl,ho⟩,ho2⟩
  ·simp only;omega
  ·simp only[mX,show(i+1).toNat=i.toNat+1 by omega]
 ·rw[ab0 (by omega)] at h4
  simp only[di,mX,ac3] at h4
  subst h4
  exact ho1
noncomputable def LL(κ:Kp):Env:=(zG κ).ak 229 7 (aP 2 JN (FE κ) Kc)
theorem WO(κ:Kp):aD (LL κ):=(YW κ).ak (Vh κ) (Xr κ)
theorem Vo(κ:Kp):aj (LL κ):=(Vh κ).ak aI
theorem y45(κ:Kp)(a:cq)(K:AV->List Dn.Obj->Prop):(bf (LL κ) 12 229 [.cK 0, .ptr 1 0 [] 0] [.ext (some a.xs), .box 66 (aq a)] K)=(
 letI z1:=AV.agg [AV.agg [AV.str a.rel,AV.ad 56 a.hl],AV.ad 72 a.bl,AV.int a.line]
 letI z2:=Pg.toProgram (Env.P (Pc κ))
 letI z3:=Pg.toProgram (Env.P (zG κ))
 ∃(e5:List AV),a.xs=AV.bp [AV.lit (aB κ (bq {rel:=a.rel,l:=aa a.hl}))]::e5/\(∃(e4:List AV),e5=AV.bp [AV.lit (aB κ (decide ((↑(a.bl.length):Int)<=(20:Int))))]::e4/\(ah z2 229 2=ah z2 229 2/\∃(e3:cq),sp 69 [(0,AV.cK 0),(1,AV.ptr 1 0 [] 0),(25,AV.ad 56 a.hl),(26,AV.int (↑(a.hl.length):Int)),(27,AV.int 0)] [Obj.ext (some e4),Obj.box 66 z1]=sp 69 [(0,AV.cK 0),(1,AV.ptr 1 0 [] 0),(25,AV.ad 56 e3.hl),(26,AV.int (↑(e3.hl.length):Int)),(27,AV.int e3.i)] [Obj.ext (some e3.xs),Obj.box 66 (AV.agg [AV.agg [AV.str e3.rel,AV.ad 56 e3.hl],AV.ad 72 e3.bl,AV.int e3.line])]/\(e3.hl.length<=9223372036854775807/\(0:Int)<=e3.i/\e3.i<=(↑(e3.hl.length):Int)/\e3.xs=mX κ (List.map (pQ e3.bl.length) (aa (List.drop e3.i.toNat e3.hl)))++e3.more)/\∀(e2:Bool),True->aC e2 (ah z3 229 7=ah z3 229 7/\∃(e1:cq),sp 69 [(0,AV.cK 0),(57,AV.ad 72 e3.bl),(58,AV.int (↑(e3.bl.length):Int)),(59,AV.int 0)] [Obj.ext (some e3.more),Obj.box 66 (AV.agg [AV.agg [AV.str e3.rel,AV.ad 56 e3.hl],AV.ad 72 e3.bl,AV.int e3.line])]=sp 69 [(0,AV.cK 0),(57,AV.ad 72 e1.bl),(58,AV.int (↑(e1.bl.length):Int)),(59,AV.int e1.i)] [Obj.ext (some e1.xs),Obj.box 66 (AV.agg [AV.agg [AV.str e1.rel,AV.ad 56 e1.hl],AV.ad 72 e1.bl,AV.int e1.line])]/\(e1.bl.length<=9223372036854775807/\(0:Int)<=e1.i/\e1.i<=(↑(e1.bl.length):Int)/\e1.xs=mX κ (List.map iV (di (List.drop e1.i.toNat e1.bl))))/\∀(e0:Bool),True->aC e0 (K (AV.bp []) [Obj.ext (some []),Obj.box 66 (AV.agg [AV.agg [AV.str e1.rel,AV.ad 56 e1.hl],AV.ad 72 e1.bl,AV.int e1.line])]) (K (AV.bp []) [Obj.ext none,Obj.box 66 (AV.agg [AV.agg [AV.str e1.rel,AV.ad 56 e1.hl],AV.ad 72 e1.bl,AV.int e1.line])])) (K (AV.bp []) [Obj.ext none,Obj.box 66 (AV.agg [AV.agg [AV.str e3.rel,AV.ad 56 e3.hl],AV.ad 72 e3.bl,AV.int e3.line])]))/\K (AV.bp []) [Obj.ext none,Obj.box 66 z1])/\K (AV.bp []) [Obj.ext none,Obj.box 66 z1]):=by kernel_rfl
def Kl(a:cq):List AV×List Dn.Obj:=([.cK 0, .ptr 1 0 [] 0],[.ext (some a.xs), .box 66 (aq a)])
def EM(κ:Kp)(a:cq):Prop:=a.hl.length<=aM/\a.bl.length<=aM/\a.xs=mX κ (rT ⟨⟨a.rel,aa a.hl⟩,di a.bl⟩)
def LZ:cq->Out (AV×List Dn.Obj):=fun _=> .all (fun st'=>qN st') fun st'=> .one (.bp [],st')
theorem c45(κ:Kp):bz (LL κ) 12 229 (aR Kl (EM κ) LZ):=by
 refine bg ?_
 rintro⟨xs,more,rel,hl,bl,line,i⟩ K ⟨h1,h2,h3⟩ ho
 simp only at h1 h2 h3
 simp only[Kl]
 rw[y45 κ ⟨xs,more,rel,hl,bl,line,i⟩]
 simp only
 have hn: ∀b,K (.bp []) [.ext none,b]:=fun b=>ho _ trivial
 have h0: ∀b,K (.bp []) [.ext (some []),b]:=fun b=>ho _ trivial
 subst h3
 have V6:decide ((bl.length:Int)<=20)=decide (bl.length<=20):=by
  by_cases h:bl.length<=20
  ·rw[aa8 h,aa8 (by omega)]
  ·rw[aa6 h,aa6 (by omega)]
 rw[V6]
 simp only[rT,mX,ac2,Al]
 refine⟨_,rfl,⟨_,rfl,⟨trivial,⟨_,mX κ ((di bl).map iV),rel,hl,bl,line,0⟩,rfl,⟨h1,by simp only;omega,by simp only;omega,?_⟩,?_⟩,hn _⟩,hn _⟩
 ·simp[mX,Al]
 ·intro y _
  cases y
  ·exact hn _
  ·refine⟨trivial,⟨_,[],rel,hl,bl,line,0⟩,rfl,⟨h2,by simp only;omega,by simp only;omega,by simp[mX]⟩,?_⟩
   intro y _
   cases y
   ·exact hn _
   ·exact h0 _
set_option maxRecDepth 20000 in
noncomputable def P4(κ:Kp):Env:=(LL κ).ay 229 (aR Kl (EM κ) LZ)
theorem e45(κ:Kp):aD (P4 κ):=(WO κ).ay (Vo κ) (c45 κ)
theorem m45(κ:Kp):aj (P4 κ):=(Vo κ).ay aK
noncomputable abbrev Q7(κ:Kp)(a:cq)(st:LoopState)(p:Option Code):Dn.Obj:=
 .loop (gj (Pr κ).toProgram 111 3 st p (fU (bJ 15) [(0,aq a),(1, .ptr 0 0 [] 0),(2, .bool false),(3, .ptr 1 0 [] 0),(5,aq a),(6, .bQ 229 [.ptr 2 0 [] 0])]))
noncomputable abbrev pn(κ:Kp)(a:cq):List Dn.Obj:=[.box 66 (aq a), .box 170 (.lit .nilIface), .box 66 (aq a),Q7 κ a .ready none]
noncomputable abbrev DY(κ:Kp)(a:cq):List Dn.Obj:=[.box 66 (aq a), .box 170 (.lit .nilIface), .dead,Q7 κ a .ready none]
theorem s16(κ:Kp)(a:cq)(Q:List Dn.Obj->Prop):(tidy (Pr κ).toProgram 4 (dY (pn κ a) (cH (pn κ a) [.ptr 2 0 [] 0])) Q)=(
 Q [Obj.box 66 (aq a),Obj.box 170 (AV.lit Value.nilIface),Obj.dead,Dn.Obj.loop (gj Tryz.prog 111 3 LoopState.ready none (fU (bJ 15) [(0,aq a),(1,AV.ptr 0 0
 [] 0),(2,AV.bool false),(3,AV.ptr 1 0 [] 0),(5,aq a),(6,AV.bQ 229 [AV.ptr 2 0 [] 0])]))]):=by kernel_rfl
theorem r16(κ:Kp)(a:cq)(u:Value)(Q:List Dn.Obj->Prop)(K2:List Dn.Obj->Prop):(gX (vc (P4 κ) 12) 3 [.lit u] (DY κ a) (fun r st''=>match r with| .lit (.bool true)=>tidy (Pr κ).toProgram 4 st'' Q| .lit (.bool false)=>K2 st''|_=>False))=(
 letI z1:=fU (bJ 15) [(0,aq a),(1,AV.ptr 0 0 [] 0),(2,AV.bool false),(3,AV.ptr 1 0 [] 0),(5,aq a),(6,AV.bQ 229 [AV.ptr 2 0 [] 0])]
 ba (aE u) (aC (!bR u) (K2 [Obj.box 66 (aq a),Obj.box 170 (AV.lit u),Obj.dead,Dn.Obj.loop (gj Tryz.prog 111 3 LoopState.done (some (Code.exit 0)) z1)]) (Q
 [Obj.box 66 (aq a),Obj.box 170 (AV.lit Value.nilIface),Obj.dead,Dn.Obj.loop (gj Tryz.prog 111 3 LoopState.ready none z1)]))):=by kernel_rfl
noncomputable abbrev Q2(κ:Kp)(a:cq):List Dn.Obj:=[.box 66 (aq a), .box 170 (.lit (aB κ false)), .dead,Q7 κ a .done (some (.exit 0))]
def uR(a:cq):Rl:=⟨⟨a.rel,aa a.hl⟩,di a.bl⟩
theorem k16(κ:Kp)(a:cq)(xs:List AV):(AV.cK 0::fW (jM (cH (pn κ a) [.ptr 2 0 [] 0])) [.ptr 2 0 [] 0],Obj.ext (some xs)::gH (jM (cH (pn κ a) [.ptr 2 0 [] 0])) (gU (pn κ a) (cH (pn κ a) [.ptr 2 0 [] 0])))=Kl {a with xs:=xs}:=by kernel_rfl
theorem o16(κ:Kp)(a:cq):nT (pn κ a) [.ptr 2 0 [] 0]=true:=by kernel_rfl
noncomputable def RA(κ:Kp):dG:=fun caps st K=>∃a:cq,(caps,st)=([AV.ptr 2 0 [] 0],pn κ a)/\(a.hl.length<=aM/\a.bl.length<=aM)/\aC (aQ (uR a)) (K (DY κ a)) (K (Q2 κ a))
theorem IA(κ:Kp):(RA κ).jk:=by
 rintro caps st K K' hK ⟨a,h1,h2,h3⟩
 refine⟨a,h1,h2,?_⟩
 rw[af] at h3⊢
 exact⟨fun e=>hK _ (h3.1 e),fun e=>hK _ (h3.2 e)⟩
theorem call45(κ:Kp)(args:List AV)(st:List Dn.Obj)(K:AV->List Dn.Obj->Prop)(h:aR Kl (EM κ) LZ args st K):(P4 κ).call 229 args st K:=h
theorem YN(κ:Kp):lq (P4 κ) 12 229 (RA κ):=by
 rintro caps st K ⟨a,h1,h2,h3⟩
 obtain⟨rfl,rfl⟩:=Prod.mk.inj h1
 rw[af] at h3
 refine⟨mX κ (rT (uR a)),fun items st'=>∃l,items=mX κ l/\st'=DY κ a/\aQ (uR a)=l.all id,⟨o16 κ a,?_,?_,?_,?_⟩⟩
 ·refine call45 κ _ _ _ ?_
  refine⟨{a with xs:=mX κ (rT (uR a))},?_,⟨h2.1,h2.2,rfl⟩,fun st' h=>h⟩
  exact k16 κ a _
 ·rw[show(P4 κ).P=Pr κ from rfl,show(pn κ a).length=4 from rfl,s16]
  exact⟨_,rfl,rfl,Fv _⟩
 ·rintro us rest st' ⟨l,e1,rfl,e3⟩
  cases l with
  |nil=>cases e1
  |cons b l=>
   simp only[mX,ac2,List.cons.injEq,AV.bp.injEq] at e1
   obtain⟨rfl,rfl⟩:=e1
   rw[show(P4 κ).P=Pr κ from rfl,show(pn κ a).length=4 from rfl]
   refine Eq.mpr (r16 κ a (aB κ b) _ _) ?_
   rw[mw,qm]
   cases b with
   |true=>exact⟨l,rfl,rfl,by rw[e3];rfl⟩
   |false=>exact h3.2 (by rw[e3];rfl)
 ·rintro st' ⟨l,e1,rfl,e3⟩
  cases l with
  |nil=>exact h3.1 (by rw[e3];rfl)
  |cons b l=>cases e1
def Yk:List Nat:=[229]
noncomputable def R9(κ:Kp):Env:=((P4 κ).addRange 111 3 229 (RA κ)).dy (fun f=>jH f Yk)
theorem XB(κ:Kp):aD (R9 κ):=((e45 κ).addRange (m45 κ) (YN κ)).dy _
theorem YT(κ:Kp):aj (R9 κ):=((m45 κ).addRange (IA κ)).dy _
end Go.Proofs.YthaiinlfnommnaaGreatDoor
namespace Go.Proofs.YthaiinlfnommnaaGreatDoor
open Go Go.Dn Go.Rl Go.Proofs Go.RowKit Go.Extern.Stop Go.Stop Go.Extern
theorem uO(v:Value)(w:World):(Extern.ReflectliteType.typeOf #[.iface 306 v]).run Tryz.prog w= .ok (.iface 282 (.agg #[.pointer (some ⟨5,306,none⟩)])) w:=by kernel_rfl
theorem mK(w:World):((Extern.ReflectliteType.method fun t=>do Go.Extern.Rtype.noPackHeld "Comparable" t;(fun a=>Value.bool a.comparable)<$>typeInfo t) #[.agg #[.pointer (some ⟨5,306,none⟩)]]).run Tryz.prog w= .ok (.bool true) w:=by kernel_rfl
theorem iG(v:Value)(w:World):(Go.method 443 282 v "Comparable").run Tryz.prog w= .ok (290,v) w:=by kernel_rfl
theorem EG:(Tryz.prog.info? 306).map (·.comparable)=some true:=by kernel_rfl
theorem EK:(Tryz.prog.info? 331).map (·.size)=some 1:=by kernel_rfl
set_option maxRecDepth 4000 in
theorem Gt(a:Addr)(w:World):
  Calls Tryz.prog 113 #[.iface 306 (.pointer (some a)), .iface 306 (.pointer (some a))] w fun e w'=>e= .returned (.bool true)/\w'=w:=by
 obtain⟨i,hi,hcmp⟩:=Option.map_eq_some_iff.1 EG
 obtain⟨j,hj,hjs⟩:=Option.map_eq_some_iff.1 EK
 have h8:= @run_callFunc_extern Tryz.prog 184 _ Extern.ReflectliteType.typeOf Tryz.func184 (by kernel_rfl) (by kernel_rfl) (by kernel_rfl) (by kernel_rfl)
 have h32:= @run_callFunc_extern Tryz.prog 290 _ (Extern.ReflectliteType.method fun t=>do Go.Extern.Rtype.noPackHeld "Comparable" t;pure (.bool (←typeInfo t).comparable)) Tryz.func290 (by kernel_rfl) (by kernel_rfl) (by kernel_rfl) (by kernel_rfl)
 have tT:=uO
 have cT:=mK
 have mR:=iG
 have heq:=run_eql_iface_ptr_same (P:=Tryz.prog) w a Tryz.underlying170 Tryz.underlying306 hi hcmp hj
 go_enter Tryz.func113,Tryz.ntmps113
 go_wp2
 refine wp_loop_rounds 1 ?_
 rw[rounds_succ]
 go_wp2
 go_ret
 exact⟨rfl,rfl⟩
theorem MB(b:Addr)(w:World):
  Calls Tryz.prog 113 #[.nilIface, .iface 306 (.pointer (some b))] w fun e w'=>e= .returned (.bool false)/\w'=w:=by
 have hn:=run_eql_iface_nil_left (P:=Tryz.prog) w 306 (.pointer (some b)) Tryz.underlying170
 go_enter Tryz.func113,Tryz.ntmps113
 go_wp2
 go_ret
 exact⟨rfl,rfl⟩
def Xs:List AV->Option (Bool×AV)
 |[.lit .nilIface, .lit (.iface 306 (.pointer (some _)))]=>some (true, .bool false)
 |[.lit (.iface 306 (.pointer (some a))), .lit (.iface 306 (.pointer (some b)))]=>some (decide (a=b), .bool true)
 |_=>none
theorem vo{C:Ctx}{u v:Value}{vs:Array Value}(h:MT C [.lit u, .lit v] vs.toList):vs= #[u,v]:=by
 obtain⟨l⟩:=vs
 match l,h with
 |[a,b],h=>
  simp only[MT] at h
  have h1:Rel C (.lit u) a:=⟨h.1,h.2.1,h.2.2.1⟩
  have h2:Rel C (.lit v) b:=⟨h.2.2.2.1,h.2.2.2.2.1,h.2.2.2.2.2.1⟩
  rw[aV h1,aV h2]
 |[],h=>simp[MT] at h
 |[_],h=>simp[MT] at h
 |_::_::_::_,h=>simp[MT] at h
theorem qIs(κ:Kp):gm (Pr κ) 113 Xs:=by
 intro args x hn hg
 unfold Xs at hg
 split at hg
 ·simp only[aa5,ab1,true_and] at hg
  subst hg
  refine⟨_,_,Tryz.func113,rfl,rfl,rfl,fun C vs hC hI hm=>?_⟩
  rw[vo hm]
  refine(callsIn_wide.2 (MB _ C.w)).mono ?_
  rintro e w' ⟨rfl,rfl⟩
  exact⟨rfl,ir.refl _⟩
 ·simp only[aa5,ab1,aa2] at hg
  obtain⟨rfl,rfl⟩:=hg
  refine⟨_,_,Tryz.func113,rfl,rfl,rfl,fun C vs hC hI hm=>?_⟩
  rw[vo hm]
  refine(callsIn_wide.2 (Gt _ C.w)).mono ?_
  rintro e w' ⟨rfl,rfl⟩
  exact⟨rfl,ir.refl _⟩
 ·cases hg
end Go.Proofs.YthaiinlfnommnaaGreatDoor
namespace Go.Proofs.YthaiinlfnommnaaGreatDoor
open Go Go.Dn Go.Rl Go.Proofs
attribute [local irreducible] bf vc
set_option maxRecDepth 20000
noncomputable def Tw(κ:Kp):Env:=(R9 κ).aG 113 Xs
theorem eIs(κ:Kp):aD (Tw κ):=(XB κ).eo (qIs κ)
theorem mIs(κ:Kp):aj (Tw κ):=(YT κ).aG
theorem y16(κ:Kp)(a:cq)(K:AV->List Dn.Obj->Prop):(bf (Tw κ) 12 111 [aq a] [] K)=(
 ∃(e0:cq),([AV.ptr 2 0 [] 0],[Obj.box 66 (aq a),Obj.box 170 (AV.lit Value.nilIface),Obj.box 66 (aq a),Dn.Obj.loop (gj Tryz.prog 111 3 LoopState.ready
 none (fU (bJ 15) [(0,aq a),(1,AV.ptr 0 0 [] 0),(2,AV.bool false),(3,AV.ptr 1 0 [] 0),(5,aq a),(6,AV.bQ 229 [AV.ptr 2 0 [] 0])]))])=([AV.ptr 2 0 []
 0],[Obj.box 66 (aq e0),Obj.box 170 (AV.lit Value.nilIface),Obj.box 66 (aq e0),Dn.Obj.loop (gj Tryz.prog 111 3 LoopState.ready none (fU (bJ 15) [(0,aq e0),
 (1,AV.ptr 0 0 [] 0),(2,AV.bool false),(3,AV.ptr 1 0 [] 0),(5,aq e0),(6,AV.bQ 229 [AV.ptr 2 0 [] 0])]))])/\(e0.hl.length<=9223372036854775807/\
 e0.bl.length<=9223372036854775807)/\aC (aQ (uR e0)) (K (AV.bool true) []) (ba (decide (Kp.tree κ=Kp.tree κ)) (K (AV.bool false) []))):=by kernel_rfl
def YC:List AV->Option (Bool×AV)
 |[.agg [.agg [.lit (.string rel), .ad 56 hl], .ad 72 bl, .lit (.int .i64 _)]]=>some (decide (hl.length<=aM)&&decide (bl.length<=aM), .bool (aQ ⟨⟨rel,aa hl⟩,di bl⟩))
 |_=>none
theorem p16(κ:Kp):cy (Tw κ) 12 111 YC:=by
 intro args x hh
 unfold YC at hh
 split at hh
 ·rename_i rel hl bl line
  simp only[aa5,ab1,aa3,aa2] at hh
  obtain⟨⟨h1,h2⟩,rfl⟩:=hh
  refine⟨_,rfl,rfl,?_⟩
  rw[y16 κ ⟨[],[],rel,hl,bl,line,0⟩]
  refine⟨⟨[],[],rel,hl,bl,line,0⟩,rfl,⟨h1,h2⟩,?_⟩
  rw[af]
  refine⟨fun e=>?_,fun e=>?_⟩
  ·rw[show aQ ⟨⟨rel,aa hl⟩,di bl⟩=true from e]
  ·rw[show aQ ⟨⟨rel,aa hl⟩,di bl⟩=false from e]
   simp[ba]
 ·cases hh
noncomputable def Wx(κ:Kp):Env:=(Tw κ).aG 111 YC
theorem Zo(κ:Kp):aD (Wx κ):=(eIs κ).aG (mIs κ) (p16 κ)
theorem Zi(κ:Kp):aj (Wx κ):=(mIs κ).aG
def QW(l:List AV):List AV×List Dn.Obj:=([.ad 56 l],[])
def RP(n:Nat)(l:List AV):Prop:=aO (aa l)=n/\n<=100000
def J1(l:List AV):Out (AV×List Dn.Obj):= .one (.ar 0 0 (ax (aa l)).length,[.row 9 (strs (ax (aa l)))])
def Kv(n:Nat):dw:=aR QW (RP n) J1
noncomputable def ze(κ:Kp)(r:Nat):Env:=(Wx κ).ay 182 fun args st K=>∃m,m<r/\Kv m args st K
theorem x31(κ:Kp)(r:Nat)(l:List AV)(i:Int)(xs:List AV)(k:Nat)(I:Nat->S->Prop)(n:Nat)(K:Exit->S->Prop):(vc (ze κ r) 12 182 none 0 (ah (Pr κ).toProgram 182 3) (sp 27 [(3, .ar 0 0 k),(6, .ad 56 l),(7, .int l.length),(8, .int i)] [.row 9 xs]) (bL (ze κ r) 182 3 0 I n K))=(
 letI z1:=IntKind.wrap IntKind.i64 (i+(1:Int))
 letI z2:=nth l i.toNat
 letI z3:=i<(↑(l.length):Int)
 aC (decide z3) (ba (decide ((0:Int)<=i)&&decide z3) (aC (toInt (ae z2 0)==(1:Int)) (ba (decide ((k+1+1)*17<=70368744177664)) (∃(e2:Nat),e2<
 r/\∃(e1:List AV),([AV.ad 56 (ai (ae z2 3))],aJ)=([AV.ad 56 e1],aJ)/\(aO (aa e1)=e2/\e2<=100000)/\ba (decide ((k+1+List.length (List.take
 (List.length (ax (aa e1))) (List.drop 0 (strs (ax (aa e1)))))+1)*17<=70368744177664)) (∃(e0:Nat),e0<n/\I e0 (sp 27 [(3,AV.ar 0 0 (k+1+
 List.length (List.take (List.length (ax (aa e1))) (List.drop 0 (strs (ax (aa e1))))))),(6,AV.ad 56 l),(7,AV.int (↑(l.length):Int)),(8,AV.int z1)]
 [Obj.row 9 (List.take (k+1) (List.take k xs++[AV.str (toStr (ae z2 1))])++List.take (List.length (ax (aa e1))) (List.drop 0 (strs (ax (aa e1)))))])))) (∃
 (e2:Nat),e2<r/\∃(e1:List AV),([AV.ad 56 (ai (ae z2 3))],aJ)=([AV.ad 56 e1],aJ)/\(aO (aa e1)=e2/\e2<=100000)/\ba (decide ((k+List.length
 (List.take (List.length (ax (aa e1))) (List.drop 0 (strs (ax (aa e1)))))+1)*17<=70368744177664)) (∃(e0:Nat),e0<n/\I e0 (sp 27 [(3,AV.ar 0 0 (k+
 List.length (List.take (List.length (ax (aa e1))) (List.drop 0 (strs (ax (aa e1))))))),(6,AV.ad 56 l),(7,AV.int (↑(l.length):Int)),(8,AV.int z1)]
 [Obj.row 9 (List.take k xs++List.take (List.length (ax (aa e1))) (List.drop 0 (strs (ax (aa e1)))))]))))) (K (Exit.exit 0) (sp 27 [(3,AV.ar 0 0 k)] [Obj.row
 9 xs]))):=by kernel_rfl
abbrev Gs(a:List AV×Int×List ByteArray):S:=sp 27 [(3, .ar 0 0 a.2.2.length),(6, .ad 56 a.1),(7, .int a.1.length),(8, .int a.2.1)] [.row 9 (strs a.2.2)]
def FD(r:Nat)(a:List AV×Int×List ByteArray):Prop:=a.1.length<=aM/\0<=a.2.1/\a.2.1<=a.1.length/\aO (aa (a.1.drop a.2.1.toNat))<=r/\a.2.2.length+aO (aa (a.1.drop a.2.1.toNat))<=100000
def uy(a:List AV×Int×List ByteArray):Out (Exit×S):= .one (.exit 0,sp 27 [(3, .ar 0 0 (a.2.2++ax (aa (a.1.drop a.2.1.toNat))).length)] [.row 9 (strs (a.2.2++ax (aa (a.1.drop a.2.1.toNat))))])
theorem FB(l:List AV)(i:Nat)(h:i<l.length):aO (aa (l.drop i))=1+aO (aa (ai (ae (nth l i) 3)))+aO (aa (l.drop (i+1))):=by
 rw[dL l i h,aO,cz,Tm.gu]
theorem Mw(l:List AV)(i:Nat)(h:i<l.length):ax (aa (l.drop i))=(bif decide (toInt (ae (nth l i) 0)=1) then[toStr (ae (nth l i) 1)] else[])++ax (aa (ai (ae (nth l i) 3)))++ax (aa (l.drop (i+1))):=by
 rw[dL l i h,ax,cz,Tm.vars]
theorem l31(κ:Kp)(r:Nat):bk (ze κ r) 12 182 3 (aP 0 Gs (FD r) uy):=by
 refine aL (fun a=>a.1.length - a.2.1.toNat) ?_
 rintro⟨l,i,vs⟩ K ⟨h1,h2,h3,h4,h5⟩ ho
 simp only at h1 h2 h3 h4 h5
 rw[show(ze κ r).P=Pr κ from rfl]
 refine Eq.mpr (x31 κ r l i (strs vs) vs.length _ _ K) ?_
 simp only[ab2,dd]
 simp only[aM] at h1
 simp only[af,an,aa2,aa4,aa3,beq_iff_eq,beq_eq_false_iff_ne]
 refine⟨fun hi=>⟨⟨h2,hi⟩,?_⟩,fun hi=>?_⟩
 ·have hc:=FB l i.toNat (by omega)
  have hv:=Mw l i.toNat (by omega)
  have hle:=cF (aa (ai (ae (nth l i.toNat) 3)))
  rw[aW (n:=i+1) (by omega) (by omega)]
  refine⟨fun e1=>⟨by omega,_,?_,ai (ae (nth l i.toNat) 3),rfl,⟨rfl,by omega⟩,?_,_,?_,(l,i+1,vs++[toStr (ae (nth l i.toNat) 1)]++ax (aa (ai (ae (nth l i.toNat) 3)))),?_,⟨by simpa[aM] using h1,by simp only;omega,by simp only;omega,?_,?_⟩,rfl,?_⟩,
   fun e1=>⟨_,?_,ai (ae (nth l i.toNat) 3),rfl,⟨rfl,by omega⟩,?_,_,?_,(l,i+1,vs++ax (aa (ai (ae (nth l i.toNat) 3)))),?_,⟨by simpa[aM] using h1,by simp only;omega,by simp only;omega,?_,?_⟩,rfl,?_⟩⟩
  all_goals first
   |omega
   |(simp only[aX];omega)
   |(simp only[show(i+1).toNat=i.toNat+1 by omega,ac0,List.length_cons,List.length_nil];omega)
   |skip
  ·simp only[Gs,iu,aX,ac0,List.length_cons,List.length_nil]
   rw[List.take_of_length_le (by simp[aX])]
   rfl
  ·simp only[uy,Out.run,show(i+1).toNat=i.toNat+1 by omega] at ho⊢
   rw[hv,aa8 e1] at ho
   simpa[List.append_assoc] using ho
  ·simp only[Gs,iu,aX,ac0]
  ·simp only[uy,Out.run,show(i+1).toNat=i.toNat+1 by omega] at ho⊢
   rw[hv,aa6 e1] at ho
   simpa[List.append_assoc] using ho
 ·simp only[uy,Out.run] at ho
  rw[ab0 (by omega)] at ho
  simpa[aa,ax] using ho
noncomputable def It(κ:Kp)(r:Nat):Env:=(ze κ r).ak 182 3 (aP 0 Gs (FD r) uy)
theorem y31(κ:Kp)(r:Nat)(l:List AV)(K:AV->List Dn.Obj->Prop):(bf (It κ r) 12 182 [.ad 56 l] [] K)=(
 ah (Pg.toProgram (Env.P (ze κ r))) 182 3=ah (Pg.toProgram (Env.P (ze κ r))) 182 3/\∃(a:List AV×Int×List ByteArray),sp 27 [(3,AV.ar 0
 0 0),(6,AV.ad 56 l),(7,AV.int (↑(l.length):Int)),(8,AV.int 0)] [Obj.row 9 []]=sp 27 [(3,AV.ar 0 0 (List.length a.2.2)),(6,AV.ad 56 a.1),(7,
 AV.int (↑(a.1.length):Int)),(8,AV.int a.2.1)] [Obj.row 9 (strs a.2.2)]/\(a.1.length<=9223372036854775807/\(0:Int)<=a.2.1/\a.2.1<=(↑(a.1.length):
 Int)/\aO (aa (List.drop a.2.1.toNat a.1))<=r/\List.length a.2.2+aO (aa (List.drop a.2.1.toNat a.1))<=100000)/\K (AV.ar 0 0 (List.length
 (a.2.2++ax (aa (List.drop a.2.1.toNat a.1))))) [Obj.row 9 (strs (a.2.2++ax (aa (List.drop a.2.1.toNat a.1))))]):=by kernel_rfl
theorem H4(n:Nat):(Kv n).jk:=aK
theorem XR(κ:Kp)(r:Nat)(hp: ∀args st K,(∃m,m<r/\Kv m args st K)->dq (Pr κ) 182 args st K):aD (It κ r)/\aj (It κ r)/\(It κ r).P=Pr κ:=
 have h:aD (ze κ r):=(Zo κ).iE hp
 have hm:aj (ze κ r):=(Zi κ).ay (fun _ _ _ _ hK ⟨m,h1,h2⟩=>⟨m,h1,H4 m _ _ _ _ hK h2⟩)
 ⟨h.ak hm (l31 κ r),hm.ak aI,rfl⟩
theorem c31(κ:Kp)(r:Nat):bz (It κ r) 12 182 (Kv r):=by
 refine bg ?_
 rintro l K ⟨h1,h2⟩ ho
 refine Eq.mpr (y31 κ r l K) ?_
 have:=eB (aa l)
 rw[dz] at this
 refine⟨rfl,(l,0,[]),rfl,⟨by simp only;omega,by simp only;omega,by simp only;omega,?_,?_⟩,?_⟩
 ·simp only[ab9,ab2];omega
 ·simp only[ab9,ab2,List.length_nil];omega
 ·simp only[ab9,ab2,List.nil_append]
  exact ho
def bI(l:List AV):Prop:=aO (aa l)<=100000
theorem q31(κ:Kp): ∀args st K,aR QW bI J1 args st K->dq (Pr κ) 182 args st K:=by
 rintro args st K ⟨l,h1,h2,h3⟩
 exact aD.tO Kv (It κ) (XR κ) (c31 κ) (aO (aa l)) args st K ⟨l,h1,⟨rfl,h2⟩,h3⟩
noncomputable def Pb(κ:Kp):Env:=(Wx κ).ay 182 (aR QW bI J1)
theorem e31(κ:Kp):aD (Pb κ):=(Zo κ).iE (q31 κ)
theorem m31(κ:Kp):aj (Pb κ):=(Zi κ).ay aK
theorem x23(κ:Kp)(l:List AV)(i:Int)(es:List (Value×AV))(I:Nat->S->Prop)(n:Nat)(K:Exit->S->Prop):(vc (Pb κ) 12 121 none 1 (ah (Pr κ).toProgram 121 1) (sp 15 [(0, .mp 0),(6, .ad 9 l),(7, .int l.length),(8, .int i)] [.map 9 4 es]) (bL (Pb κ) 121 1 1 I n K))=(
 letI z1:=i<(↑(l.length):Int)
 aC (decide z1) (ba (decide ((0:Int)<=i)&&decide z1) (∃(e0:Nat),e0<n/\I e0 (sp 15 [(0,AV.mp 0),(6,AV.ad 9 l),(7,AV.int (↑(l.length):Int)),(8,
 AV.int (IntKind.wrap IntKind.i64 (i+(1:Int))))] [Dn.Obj.map 9 4 (ff es (Value.string (toStr (nth l i.toNat))) (AV.bool true))]))) (K (Exit.exit 0) (sp 15 []
 [Dn.Obj.map 9 4 es]))):=by kernel_rfl
abbrev Qe(a:List AV×Int×List (Value×AV)):S:=sp 15 [(0, .mp 0),(6, .ad 9 a.1),(7, .int a.1.length),(8, .int a.2.1)] [.map 9 4 a.2.2]
def ud(a:List AV×Int×List (Value×AV)):Prop:=a.1.length<=aM/\0<=a.2.1/\a.2.1<=a.1.length
def zp(a:List AV×Int×List (Value×AV)):Out (Exit×S):= .one (.exit 0,sp 15 [] [.map 9 4 (fA a.2.2 (a.1.drop a.2.1.toNat))])
theorem l23(κ:Kp):bk (Pb κ) 12 121 1 (aP 1 Qe ud zp):=by
 refine aL (fun a=>a.1.length - a.2.1.toNat) ?_
 rintro⟨l,i,es⟩ K ⟨h1,h2,h3⟩ ho
 simp only at h1 h2 h3
 rw[show(Pb κ).P=Pr κ from rfl]
 refine Eq.mpr (x23 κ l i es _ _ K) ?_
 simp only[aM] at h1
 simp only[af,an,aa2,aa4,aa3]
 refine⟨fun hi=>⟨⟨h2,hi⟩,?_⟩,fun hi=>?_⟩
 ·rw[aW (n:=i+1) (by omega) (by omega)]
  refine⟨_,?_,(l,i+1,ff es (.string (toStr (nth l i.toNat))) (.lit (.bool true))),rfl,⟨by simpa[aM] using h1,by simp only;omega,by simp only;omega⟩,rfl,?_⟩
  ·simp only;omega
  ·simp only[zp,Out.run] at ho⊢
   rw[ab3 (show i.toNat<l.length by omega),fA,←aZ l i.toNat (by omega)] at ho
   rw[show(i+1).toNat=i.toNat+1 by omega]
   exact ho
 ·simp only[zp,Out.run] at ho
  rw[ab0 (by omega)] at ho
  exact ho
noncomputable def JZ(κ:Kp):Env:=(Pb κ).ak 121 1 (aP 1 Qe ud zp)
theorem WN(κ:Kp):aD (JZ κ):=(e31 κ).ak (m31 κ) (l23 κ)
theorem Uh(κ:Kp):aj (JZ κ):=(m31 κ).ak aI
theorem y23(κ:Kp)(l:List AV)(es:List (Value×AV))(K:AV->List Dn.Obj->Prop):(bf (JZ κ) 12 121 [.mp 0, .ad 9 l] [.map 9 4 es] K)=(
 letI z1:=Pg.toProgram (Env.P (Pb κ))
 ah z1 121 1=ah z1 121 1/\∃(e0:List AV×Int×List (Value×AV)),sp 15 [(0,AV.mp 0),(6,AV.ad 9 l),(7,AV.int (↑(l.length):Int)),(8,AV.int 0)]
 [Dn.Obj.map 9 4 es]=sp 15 [(0,AV.mp 0),(6,AV.ad 9 e0.1),(7,AV.int (↑(e0.1.length):Int)),(8,AV.int e0.2.1)] [Dn.Obj.map 9 4 e0.2.2]/\(e0.1.length<=
 9223372036854775807/\(0:Int)<=e0.2.1/\e0.2.1<=(↑(e0.1.length):Int))/\K (AV.bp []) [Dn.Obj.map 9 4 (fA e0.2.2 (List.drop e0.2.1.toNat e0.1))]):=by kernel_rfl
def Pl(a:List AV×List (Value×AV)):List AV×List Dn.Obj:=([.mp 0, .ad 9 a.1],[.map 9 4 a.2])
def br(a:List AV×List (Value×AV)):Prop:=a.1.length<=aM
def Qu(a:List AV×List (Value×AV)):Out (AV×List Dn.Obj):= .one (.bp [],[.map 9 4 (fA a.2 a.1)])
theorem c23(κ:Kp):bz (JZ κ) 12 121 (aR Pl br Qu):=by
 refine bg ?_
 rintro⟨l,es⟩ K h1 ho
 refine Eq.mpr (y23 κ l es K) ?_
 exact⟨rfl,(l,0,es),rfl,⟨h1,by simp only;omega,by simp only;omega⟩,ho⟩
noncomputable def Ox(κ:Kp):Env:=(JZ κ).ay 121 (aR Pl br Qu)
theorem e23(κ:Kp):aD (Ox κ):=(WN κ).ay (Uh κ) (c23 κ)
theorem m23(κ:Kp):aj (Ox κ):=(Uh κ).ay aK
theorem x41(κ:Kp)(l:List AV)(i:Int)(es:List (Value×AV))(I:Nat->S->Prop)(n:Nat)(K:Exit->S->Prop):(vc (Ox κ) 12 190 none 2 (ah (Pr κ).toProgram 190 2) (sp 19 [(0, .ad 9 l),(1, .bQ 235 [.ptr 1 0 [] 0]),(7, .int l.length),(8, .int i)] [.map 9 4 es, .box 178 (.mp 0)]) (bL (Ox κ) 190 2 2 I n K))=(
 letI z1:=i<(↑(l.length):Int)
 aC (decide z1) (ba (decide ((0:Int)<=i)&&decide z1) (aC (!Dn.toBool (dt es (Value.string (toStr (nth l i.toNat))) (AV.bool false))) (K Exit.ret (sp 19 [(4,
 AV.int i)] [Dn.Obj.map 9 4 es,Obj.box 178 (AV.mp 0)])) (∃(e0:Nat),e0<n/\I e0 (sp 19 [(0,AV.ad 9 l),(1,AV.bQ 235 [AV.ptr 1 0 [] 0]),(7,AV.int
 (↑(l.length):Int)),(8,AV.int (IntKind.wrap IntKind.i64 (i+(1:Int))))] [Dn.Obj.map 9 4 es,Obj.box 178 (AV.mp 0)])))) (K (Exit.exit 0) (sp 19 []
 [Dn.Obj.map 9 4 es,Obj.box 178 (AV.mp 0)]))):=by kernel_rfl
abbrev M0(es:List (Value×AV)):List Dn.Obj:=[.map 9 4 es, .box 178 (.mp 0)]
abbrev Qg(a:List AV×Int×List (Value×AV)):S:=sp 19 [(0, .ad 9 a.1),(1, .bQ 235 [.ptr 1 0 [] 0]),(7, .int a.1.length),(8, .int a.2.1)] (M0 a.2.2)
def yZ(a:List AV×Int×List (Value×AV)):Out (Exit×S):=
 .aC (gC a.2.2 (a.1.drop a.2.1.toNat)) (.one (.exit 0,sp 19 [] (M0 a.2.2))) (.all (fun j:Int=>0<=j) fun j=> .one (.ret,sp 19 [(4, .int j)] (M0 a.2.2)))
theorem l41(κ:Kp):bk (Ox κ) 12 190 2 (aP 2 Qg ud yZ):=by
 refine aL (fun a=>a.1.length - a.2.1.toNat) ?_
 rintro⟨l,i,es⟩ K ⟨h1,h2,h3⟩ ho
 simp only at h1 h2 h3
 rw[show(Ox κ).P=Pr κ from rfl]
 refine Eq.mpr (x41 κ l i es _ _ K) ?_
 simp only[aM] at h1
 simp only[yZ,Out.run,af] at ho
 simp only[af,an,aa2,aa4,aa3,Bool.not_eq_true',ab4]
 refine⟨fun hi=>⟨⟨h2,hi⟩,?_⟩,fun hi=>?_⟩
 ·rw[ab3 (show i.toNat<l.length by omega),←aZ l i.toNat (by omega)] at ho
  simp only[gC,List.all_cons] at ho
  refine⟨fun e=>?_,fun e=>?_⟩
  ·have e':lT es (toStr (nth l i.toNat))=false:=e
   exact ho.2 (by rw[e'];rfl) i h2
  ·have e':lT es (toStr (nth l i.toNat))=true:=e
   rw[e',ac1] at ho
   rw[aW (n:=i+1) (by omega) (by omega)]
   refine⟨_,?_,(l,i+1,es),rfl,⟨by simpa[aM] using h1,by simp only;omega,by simp only;omega⟩,rfl,?_⟩
   ·simp only;omega
   ·simp only[yZ,Out.run,af,show(i+1).toNat=i.toNat+1 by omega]
    exact ho
 ·rw[ab0 (by omega)] at ho
  exact ho.1 rfl
noncomputable def Kj(κ:Kp):Env:=(Ox κ).ak 190 2 (aP 2 Qg ud yZ)
theorem Ya(κ:Kp):aD (Kj κ):=(e23 κ).ak (m23 κ) (l41 κ)
theorem Uq(κ:Kp):aj (Kj κ):=(m23 κ).ak aI
theorem y30(κ:Kp)(l:List AV)(es:List (Value×AV))(K:AV->List Dn.Obj->Prop):(bf (Kj κ) 12 181 [.mp 0, .ad 9 l] [.map 9 4 es] K)=(
 ah (Pg.toProgram (Env.P (Ox κ))) 190 2=ah (Pg.toProgram (Env.P (Ox κ))) 190 2/\∃(a:List AV×Int×List (Value×AV)),sp 19 [(0,AV.ad 9
 l),(1,AV.bQ 235 [AV.ptr 1 0 [] 0]),(7,AV.int (↑(l.length):Int)),(8,AV.int 0)] [Dn.Obj.map 9 4 es,Obj.box 178 (AV.mp 0)]=sp 19 [(0,AV.ad 9 a.1),
 (1,AV.bQ 235 [AV.ptr 1 0 [] 0]),(7,AV.int (↑(a.1.length):Int)),(8,AV.int a.2.1)] [Dn.Obj.map 9 4 a.2.2,Obj.box 178 (AV.mp 0)]/\(a.1.length<=
 9223372036854775807/\(0:Int)<=a.2.1/\a.2.1<=(↑(a.1.length):Int))/\aC (gC a.2.2 (List.drop a.2.1.toNat a.1)) (K (AV.bool true) [Dn.Obj.map 9 4
 a.2.2]) (∀(y:Int),(0:Int)<=y->K (AV.lit (Value.bool !decide (y>=(0:Int)))) [Dn.Obj.map 9 4 a.2.2])):=by kernel_rfl
def Lb(a:List AV×List (Value×AV)):Out (AV×List Dn.Obj):= .one (.bool (gC a.2 a.1),[.map 9 4 a.2])
theorem c30(κ:Kp):bz (Kj κ) 12 181 (aR Pl br Lb):=by
 refine bg ?_
 rintro⟨l,es⟩ K h1 ho
 refine Eq.mpr (y30 κ l es K) ?_
 refine⟨rfl,(l,0,es),rfl,⟨h1,by simp only;omega,by simp only;omega⟩,?_⟩
 simp only[Lb,Out.run] at ho
 simp only[ab9,ab2]
 rw[af]
 refine⟨fun e=>by rw[e] at ho;exact ho,fun e j hj=>?_⟩
 rw[e] at ho
 rw[aa8 (show j>=0 from hj)]
 exact ho
noncomputable def OW(κ:Kp):Env:=(Kj κ).ay 181 (aR Pl br Lb)
theorem e30(κ:Kp):aD (OW κ):=(Ya κ).ay (Uq κ) (c30 κ)
theorem m30(κ:Kp):aj (OW κ):=(Uq κ).ay aK
theorem x62(κ:Kp)(l:List AV)(i:Int)(vs:List ByteArray)(I:Nat->S->Prop)(n:Nat)(K:Exit->S->Prop):(vc (OW κ) 12 264 none 0 (ah (Pr κ).toProgram 264 3) (sp 23 [(3, .ar 0 0 vs.length),(7, .ad 56 l),(8, .int l.length),(9, .int i)] [.row 9 (strs vs)]) (bL (OW κ) 264 3 0 I n K))=(
 letI z1:=nth l i.toNat
 letI z2:=IntKind.wrap IntKind.i64 (i+(1:Int))
 letI z3:=i<(↑(l.length):Int)
 aC (decide z3) (ba (decide ((0:Int)<=i)&&decide z3) (aC (decide (toInt (ae z1 0)>=(5:Int))) (∃(e1:List AV),([AV.ad 56 [AV.agg [AV.int (toInt (ae z1
 0)),AV.str (toStr (ae z1 1)),AV.int (toInt (ae z1 2)),AV.ad 56 (ai (ae z1 3))]]],aJ)=([AV.ad 56 e1],aJ)/\bI e1/\ba (decide ((vs.length+List.length
 (List.take (List.length (ax (aa e1))) (List.drop 0 (strs (ax (aa e1)))))+1)*17<=70368744177664)) (∃(e0:Nat),e0<n/\I e0 (sp 23 [(3,AV.ar 0 0
 (vs.length+List.length (List.take (List.length (ax (aa e1))) (List.drop 0 (strs (ax (aa e1))))))),(7,AV.ad 56 l),(8,AV.int (↑(l.length):Int)),(9,
 AV.int z2)] [Obj.row 9 (List.take vs.length (strs vs)++List.take (List.length (ax (aa e1))) (List.drop 0 (strs (ax (aa e1)))))]))) (∃(e0:Nat),e0<n/\I
 e0 (sp 23 [(3,AV.ar 0 0 vs.length),(7,AV.ad 56 l),(8,AV.int (↑(l.length):Int)),(9,AV.int z2)] [Obj.row 9 (strs vs)])))) (K (Exit.exit 0) (sp 23 [(3,
 AV.ar 0 0 vs.length)] [Obj.row 9 (strs vs)]))):=by kernel_rfl
abbrev Mz(a:List AV×Int×List ByteArray):S:=sp 23 [(3, .ar 0 0 a.2.2.length),(7, .ad 56 a.1),(8, .int a.1.length),(9, .int a.2.1)] [.row 9 (strs a.2.2)]
def Hl(a:List AV×Int×List ByteArray):Prop:=a.1.length<=aM/\0<=a.2.1/\a.2.1<=a.1.length/\a.2.2.length+aO (aa (a.1.drop a.2.1.toNat))<=100000
def uB(a:List AV×Int×List ByteArray):Out (Exit×S):= .one (.exit 0,sp 23 [(3, .ar 0 0 (a.2.2++dP (aa (a.1.drop a.2.1.toNat))).length)] [.row 9 (strs (a.2.2++dP (aa (a.1.drop a.2.1.toNat))))])
theorem l62(κ:Kp):bk (OW κ) 12 264 3 (aP 0 Mz Hl uB):=by
 refine aL (fun a=>a.1.length - a.2.1.toNat) ?_
 rintro⟨l,i,vs⟩ K ⟨h1,h2,h3,h5⟩ ho
 simp only at h1 h2 h3 h5
 rw[show(OW κ).P=Pr κ from rfl]
 refine Eq.mpr (x62 κ l i vs _ _ K) ?_
 simp only[ab2,dd]
 simp only[aM] at h1
 simp only[af,an,aa2,aa4,aa3]
 refine⟨fun hi=>⟨⟨h2,hi⟩,?_⟩,fun hi=>?_⟩
 ·have hv:=MI l i.toNat (by omega)
  have hc:aO (aa (l.drop i.toNat))=aO [cx (nth l i.toNat)]+aO (aa (l.drop (i.toNat+1))):=by
   rw[dL l i.toNat (by omega)];simp only[aO,Nat.add_zero]
  have hle:=cF [cx (nth l i.toNat)]
  have ht:aa [.agg [.int (toInt (ae (nth l i.toNat) 0)), .lit (.string (toStr (ae (nth l i.toNat) 1))), .int (toInt (ae (nth l i.toNat) 2)), .ad 56 (ai (ae (nth l i.toNat) 3))]]=[cx (nth l i.toNat)]:=by
   simp only[aa,ac2,ac3]
   rw[iU,←cz]
  rw[aW (n:=i+1) (by omega) (by omega)]
  refine⟨fun e1=>⟨_,rfl,?_,?_,_,?_,(l,i+1,vs++ax [cx (nth l i.toNat)]),?_,⟨by simpa[aM] using h1,by simp only;omega,by simp only;omega,?_⟩,rfl,?_⟩,fun e1=>⟨_,?_,(l,i+1,vs),rfl,⟨by simpa[aM] using h1,by simp only;omega,by simp only;omega,?_⟩,rfl,?_⟩⟩
  ·simp only[bI,ht];omega
  ·rw[ht,aX];omega
  ·simp only;omega
  ·rw[ht];simp only[Mz,iu,aX,ac0]
  ·simp only[show(i+1).toNat=i.toNat+1 by omega,ac0];omega
  ·simp only[uB,Out.run,show(i+1).toNat=i.toNat+1 by omega] at ho⊢
   rw[hv,aa8 (show 5<=toInt (ae (nth l i.toNat) 0) from e1)] at ho
   simpa[List.append_assoc] using ho
  ·simp only;omega
  ·simp only[show(i+1).toNat=i.toNat+1 by omega];omega
  ·simp only[uB,Out.run,show(i+1).toNat=i.toNat+1 by omega] at ho⊢
   rw[hv,aa6 (show ¬ 5<=toInt (ae (nth l i.toNat) 0) from e1)] at ho
   simpa[List.append_assoc] using ho
 ·simp only[uB,Out.run] at ho
  rw[ab0 (by omega)] at ho
  simpa[aa,dP] using ho
noncomputable def Mf(κ:Kp):Env:=(OW κ).ak 264 3 (aP 0 Mz Hl uB)
theorem YL(κ:Kp):aD (Mf κ):=(e30 κ).ak (m30 κ) (l62 κ)
theorem VT(κ:Kp):aj (Mf κ):=(m30 κ).ak aI
theorem y62(κ:Kp)(s:ByteArray)(l:List AV)(K:AV->List Dn.Obj->Prop):(bf (Mf κ) 12 264 [.agg [.lit (.string s), .ad 56 l]] [] K)=(
 ah (Pg.toProgram (Env.P (OW κ))) 264 3=ah (Pg.toProgram (Env.P (OW κ))) 264 3/\∃(a:List AV×Int×List ByteArray),sp 23 [(3,AV.ar 0 0 0),
 (7,AV.ad 56 l),(8,AV.int (↑(l.length):Int)),(9,AV.int 0)] [Obj.row 9 []]=sp 23 [(3,AV.ar 0 0 (List.length a.2.2)),(7,AV.ad 56 a.1),(8,AV.int
 (↑(a.1.length):Int)),(9,AV.int a.2.1)] [Obj.row 9 (strs a.2.2)]/\(a.1.length<=9223372036854775807/\(0:Int)<=a.2.1/\a.2.1<=(↑(a.1.length):Int)/\
 List.length a.2.2+aO (aa (List.drop a.2.1.toNat a.1))<=100000)/\K (AV.ar 0 0 (List.length (a.2.2++dP (aa (List.drop a.2.1.toNat a.1)))))
 [Obj.row 9 (strs (a.2.2++dP (aa (List.drop a.2.1.toNat a.1))))]):=by kernel_rfl
def S4(a:ByteArray×List AV):List AV×List Dn.Obj:=([.agg [.lit (.string a.1), .ad 56 a.2]],[])
def jR(a:ByteArray×List AV):Prop:=aO (aa a.2)<=100000
def P1(a:ByteArray×List AV):Out (AV×List Dn.Obj):= .one (.ar 0 0 (dP (aa a.2)).length,[.row 9 (strs (dP (aa a.2)))])
theorem c62(κ:Kp):bz (Mf κ) 12 264 (aR S4 jR P1):=by
 refine bg ?_
 rintro⟨s,l⟩ K h1 ho
 simp only[jR] at h1
 refine Eq.mpr (y62 κ s l K) ?_
 have:=eB (aa l)
 rw[dz] at this
 refine⟨rfl,(l,0,[]),rfl,⟨by simp only;omega,by simp only;omega,by simp only;omega,?_⟩,?_⟩
 ·simp only[ab9,ab2,List.length_nil];omega
 ·simp only[ab9,ab2,List.nil_append]
  exact ho
noncomputable def Up(κ:Kp):Env:=(Mf κ).ay 264 (aR S4 jR P1)
theorem e62(κ:Kp):aD (Up κ):=(YL κ).ay (VT κ) (c62 κ)
theorem ZD(κ:Kp):aj (Up κ):=(VT κ).ay aK
structure LA where
 op:Int
 s:ByteArray
 l:List AV
 o1:Int
 s1:ByteArray
 n1:Int
 l1:List AV
 o2:Int
 s2:ByteArray
 n2:Int
 l2:List AV
abbrev LA.av(a:LA):AV:= .agg [.int a.op, .agg [.lit (.string a.s), .ad 56 a.l], .agg [.int a.o1, .lit (.string a.s1), .int a.n1, .ad 56 a.l1], .agg [.int a.o2, .lit (.string a.s2), .int a.n2, .ad 56 a.l2]]
theorem y21(κ:Kp)(a:LA)(K:AV->List Dn.Obj->Prop):(bf (Up κ) 12 119 [a.av] [] K)=(
 K (AV.bool (decide (a.op>=(7:Int)))) []):=by kernel_rfl
def WY:List AV->Option (Bool×AV)
 |[.agg [.lit (.int .i64 op), .agg [.lit (.string _), .ad 56 _], .agg [.lit (.int .i64 _), .lit (.string _), .lit (.int .i64 _), .ad 56 _], .agg [.lit (.int .i64 _), .lit (.string _), .lit (.int .i64 _), .ad 56 _]]]=>some (true, .bool (decide (7<=op)))
 |_=>none
theorem p21(κ:Kp):cy (Up κ) 12 119 WY:=by
 intro args x hh
 unfold WY at hh
 split at hh
 ·rename_i op s l o1 s1 n1 l1 o2 s2 n2 l2
  simp only[aa5,ab1,true_and] at hh
  subst hh
  exact⟨_,rfl,rfl,Eq.mpr (y21 κ ⟨op,s,l,o1,s1,n1,l1,o2,s2,n2,l2⟩ _) rfl⟩
 ·cases hh
noncomputable def V3(κ:Kp):Env:=(Up κ).aG 119 WY
theorem e21(κ:Kp):aD (V3 κ):=(e62 κ).aG (ZD κ) (p21 κ)
theorem Z9(κ:Kp):aj (V3 κ):=(ZD κ).aG
theorem y40(κ:Kp)(a:LA)(K:AV->List Dn.Obj->Prop):(bf (V3 κ) 12 189 [a.av] [] K)=(
 letI z1:=∃(e1:List AV),([AV.ad 56 [AV.agg [AV.int a.o1,AV.str a.s1,AV.int a.n1,AV.ad 56 a.l1],AV.agg [AV.int a.o2,AV.str a.s2,AV.int a.n2,AV.ad 56
  a.l2]]],aJ)=([AV.ad 56 e1],aJ)/\bI e1/\∃(e0:List AV),([AV.ad 56 a.l],aJ)=([AV.ad 56 e0],aJ)/\bI e0/\ba (decide ((List.length (ax (aa e1))+
  List.length (List.take (List.length (ax (aa e0))) (List.drop 0 (strs (ax (aa e0)))))+1)*17<=70368744177664)) (K (AV.ar 0 0 (List.length (ax (aa e1))+
  List.length (List.take (List.length (ax (aa e0))) (List.drop 0 (strs (ax (aa e0))))))) [Obj.row 9 (List.take (List.length (ax (aa e1))) (strs (ax (aa e1)))++
  List.take (List.length (ax (aa e0))) (List.drop 0 (strs (ax (aa e0)))))])
 (z1/\z1/\z1/\z1)/\(z1/\z1/\z1)/\(z1/\z1)/\z1):=by kernel_rfl
def LA.lt(a:LA):Lt:=⟨a.op,⟨a.s,aa a.l⟩, .mk a.o1 a.s1 a.n1 (aa a.l1), .mk a.o2 a.s2 a.n2 (aa a.l2)⟩
def TE(a:LA):List AV×List Dn.Obj:=([a.av],[])
def gi(a:LA):Prop:=iS a.lt<=100000
def MU(a:LA):Out (AV×List Dn.Obj):= .one (.ar 0 0 (eE a.lt).length,[.row 9 (strs (eE a.lt))])
theorem c40(κ:Kp):bz (V3 κ) 12 189 (aR TE gi MU):=by
 refine bg ?_
 rintro a K h1 ho
 refine Eq.mpr (y40 κ a K) ?_
 simp only[and_self]
 simp only[gi,iS,LA.lt] at h1
 have ht:aa [.agg [.int a.o1, .lit (.string a.s1), .int a.n1, .ad 56 a.l1], .agg [.int a.o2, .lit (.string a.s2), .int a.n2, .ad 56 a.l2]]=[.mk a.o1 a.s1 a.n1 (aa a.l1), .mk a.o2 a.s2 a.n2 (aa a.l2)]:=by
  simp only[aa,ac2,ac3]
  rw[iU,iU];rfl
 have e1:=cF (aa a.l)
 have e2:=cF [.mk a.o1 a.s1 a.n1 (aa a.l1), .mk a.o2 a.s2 a.n2 (aa a.l2)]
 refine⟨_,rfl,?_,_,rfl,?_,?_⟩
 ·simp only[bI,ht];omega
 ·simp only[bI];omega
 ·simp only[ab2,dd,ht,aX]
  rw[an,aa2]
  refine⟨by omega,?_⟩
  simp only[MU,Out.run,eE,LA.lt,iu,ac0] at ho
  exact ho
noncomputable def Um(κ:Kp):Env:=(V3 κ).ay 189 (aR TE gi MU)
theorem e40(κ:Kp):aD (Um κ):=(e21 κ).ay (Z9 κ) (c40 κ)
theorem m40(κ:Kp):aj (Um κ):=(Z9 κ).ay aK
structure TA where
 o1:Int
 s1:ByteArray
 n1:Int
 l1:List AV
 o2:Int
 s2:ByteArray
 n2:Int
 l2:List AV
 es:List (Value×AV)
theorem y20(κ:Kp)(a:TA)(K:AV->List Dn.Obj->Prop):(bf (Um κ) 12 118 [.mp 0, .agg [.int a.o1, .lit (.string a.s1), .int a.n1, .ad 56 a.l1], .agg [.int a.o2, .lit (.string a.s2), .int a.n2, .ad 56 a.l2]] [.map 9 4 a.es] K)=(
 letI z1:=K (AV.bool false) [Dn.Obj.map 9 4 a.es]
 aC (a.o1==(1:Int)) (aC (!Dn.toBool (dt a.es (Value.string a.s1) (AV.bool false))) (∃(e1:List AV),([AV.ad 56 [AV.agg [AV.int a.o2,AV.str a.s2,AV.int
 a.n2,AV.ad 56 a.l2]]],aJ)=([AV.ad 56 e1],aJ)/\bI e1/\∃(e0:List AV×List (Value×AV)),([AV.mp 0,AV.ad 9 (List.take (List.length (ax (aa e1)))
 (List.drop 0 (strs (ax (aa e1)))))],[Dn.Obj.map 9 4 a.es])=([AV.mp 0,AV.ad 9 e0.1],[Dn.Obj.map 9 4 e0.2])/\br e0/\K (AV.bool (gC e0.2 e0.1)) [Dn.Obj.map
 9 4 e0.2]) z1) z1):=by kernel_rfl
def TA.x(a:TA):Tm:= .mk a.o1 a.s1 a.n1 (aa a.l1)
def TA.y(a:TA):Tm:= .mk a.o2 a.s2 a.n2 (aa a.l2)
def UL(a:TA):List AV×List Dn.Obj:=([.mp 0, .agg [.int a.o1, .lit (.string a.s1), .int a.n1, .ad 56 a.l1], .agg [.int a.o2, .lit (.string a.s2), .int a.n2, .ad 56 a.l2]],[.map 9 4 a.es])
def je(a:TA):Prop:=aO [a.y]<=100000
def PO(a:TA):Out (AV×List Dn.Obj):= .one (.bool (lU a.es a.x a.y),[.map 9 4 a.es])
theorem c20(κ:Kp):bz (Um κ) 12 118 (aR UL je PO):=by
 refine bg ?_
 rintro a K h1 ho
 refine Eq.mpr (y20 κ a K) ?_
 have ht:aa [.agg [.int a.o2, .lit (.string a.s2), .int a.n2, .ad 56 a.l2]]=[a.y]:=by
  simp only[aa,ac2,ac3]
  rw[iU];rfl
 have hle:=cF [a.y]
 have ho':K (.bool (decide (a.o1=1)&&(!lT a.es a.s1&&gC a.es (strs (ax [a.y]))))) [.map 9 4 a.es]:=ho
 simp only[je] at h1
 simp only[af,beq_iff_eq,beq_eq_false_iff_ne,Bool.not_eq_true',ab4]
 refine⟨fun e1=>⟨fun e2=>?_,fun e2=>?_⟩,fun e1=>?_⟩
 ·have e2':lT a.es a.s1=false:=e2
  rw[aa8 e1,e2'] at ho'
  refine⟨_,rfl,by simp only[bI,ht];exact h1,(strs (ax [a.y]),a.es),?_,?_,ho'⟩
  ·simp only[ab2,dd,ht]
  ·simp only[br,aX,aM];omega
 ·have e2':lT a.es a.s1=true:=e2
  rw[aa8 e1,e2'] at ho'
  exact ho'
 ·rw[aa6 e1] at ho'
  exact ho'
noncomputable def Wa(κ:Kp):Env:=(Um κ).ay 118 (aR UL je PO)
theorem V6(κ:Kp):aD (Wa κ):=(e40 κ).ay (m40 κ) (c20 κ)
theorem Z0(κ:Kp):aj (Wa κ):=(m40 κ).ay aK
end Go.Proofs.YthaiinlfnommnaaGreatDoor
